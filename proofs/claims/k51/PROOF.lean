import PyProof.Rows.All
import Wide.All
import OpenK.AllK
import Wide.FinOn
import HandS.ForMost
import HandS.Exc
import HandS.Wide
import HandS.WideBits
import HandS.IsInst
import HandS.Flow
import HandS.EndBits
import HandS.Conv
import PySem.Challenge.RW_feastwheel_k51_the_same_for_ever
set_option Elab.async false
set_option linter.all false
set_option maxRecDepth 100000
set_option maxHeartbeats 4000000
namespace FW
open PySem PySem.Spec PyProof.Rows L2
/-! ### heaps -/
theorem same_t {K : PySem.W.Frag} {H H' : Hp} {a : Addr} {xs : List V} (e : Same H H') (h : SqT K H a xs) : SqT K H' a xs := by
  rcases h with (h | ⟨o, h⟩) | h
  · exact .inl (.inl (e _ _ h))
  · exact .inl (.inr ⟨o, e _ _ h⟩)
  · exact .inr h
theorem same_l {K : PySem.W.Frag} {H H' : Hp} {a : Addr} {xs : List V} (e : Same H H') (h : SqL K H a xs) : SqL K H' a xs := e.seq h
theorem same_at {H H' : Hp} {a : Addr} {o : HO} (e : Same H H') (h : H a = some o) : H' a = some o := e _ _ h
theorem same_new {H : Hp} {p : Addr} {o : HO} (h : H p = none) : Same H (upd H p o) := fun b x e => by
  rw [upd_ne (ne_of_none e h)]
  exact e
theorem same_mut {H H' : Hp} {p : Addr} {o : HO} (e : Same H H') (h : H p = none) : Same H (upd H' p o) := fun a u ha => by
  rw [upd_ne (ne_of_none ha h)]
  exact e a u ha
section
variable {K : PySem.W.Frag} {σ : L2.St} {H H1 : Hp} {Q : VK} {D : Ends} {i : Nat} {v x y : V} {ta tb tc te : TE} {t u : TT} {tr : TA} {m n : Int} {a b : Int} {r r' : R2}
/-! ### steps: expressions -/
theorem k_var (h : σ[i]? = some (some v)) (q : Q v H) : tVar i σ H Q := ⟨v, h, q⟩
theorem k_c (q : Q v H) : tC v σ H Q := q
theorem k_op (h : ta σ H fun x H1 => tb σ H1 fun y H2 => r x y H2 Q) : tOp r ta tb σ H Q := h
theorem k_un {r : V → Hp → VK → Prop} (h : ta σ H fun x H1 => r x H1 Q) : tUn r ta σ H Q := h
theorem k_I0 {g : Int → Int → V} (q : Q (g a b) H) : rI0 g (.int a) (.int b) H Q := ⟨a, b, rfl, rfl, q⟩
theorem k_I {C : Int → Int → Prop} {g : Int → Int → V} (c : C a b) (q : Q (g a b) H) : rI C g (.int a) (.int b) H Q := ⟨a, b, rfl, rfl, c, q⟩
theorem k_U {g : Int → V} (q : Q (g a) H) : rU g (.int a) H Q := ⟨a, rfl, q⟩
theorem k_nil {Q : List V → Hp → Prop} (q : Q [] H) : tNil σ H Q := q
theorem k_cons {Q : List V → Hp → Prop} (h : ta σ H fun x H1 => tr σ H1 fun xs H2 => Q (x :: xs) H2) : tCons ta tr σ H Q := h
theorem k_cb {r : List V → Hp → VK → Prop} (h : tr σ H fun vs H1 => r vs H1 Q) : tCB r tr σ H Q := h
theorem k_call {sp : Sp} {E : XK} (h : tr σ H fun vs H1 => sp vs H1 Q E) : tCall sp [] E tr σ H Q := by
  show tr σ H fun vs H1 => sp (vs ++ []) H1 Q E
  simp only [List.append_nil]
  exact h
def NewT (xs : List V) (H : Hp) (Q : VK) : Prop := xs.length ≤ sizeLine ∧ ∀ p, H p = none → Q (.ref p) (upd H p (.tup xs))
def NewL (xs : List V) (H : Hp) (Q : VK) : Prop := xs.length ≤ sizeLine ∧ ∀ p, H p = none → Q (.ref p) (upd H p (.lst xs))
theorem k_tup (h : tr σ H fun xs H1 => NewT xs H1 Q) : tTup tr σ H Q := h
theorem k_lst (h : tr σ H fun xs H1 => NewL xs H1 Q) : tLst tr σ H Q := h
theorem k_newtup {xs : List V} (hl : xs.length ≤ 1000) (h : ∀ p H2, H p = none → Same H H2 → H2 p = some (.tup xs) → Q (.ref p) H2) : NewT xs H Q :=
  ⟨Nat.le_trans hl (by decide), fun p hp => h p _ hp (same_new hp) upd_same⟩
theorem k_newlst {xs : List V} (hl : xs.length ≤ 1000) (h : ∀ p H2, H p = none → Same H H2 → H2 p = some (.lst xs) → Q (.ref p) H2) : NewL xs H Q :=
  ⟨Nat.le_trans hl (by decide), fun p hp => h p _ hp (same_new hp) upd_same⟩
theorem k_ifx {Q : VK} (h : t σ H fun c H1 => if c = true then ta σ H1 Q else tb σ H1 Q) : tIf t ta tb σ H Q := h
theorem k_andV (h : ta σ H fun x H1 => ∃ c, x = .bl c ∧ if c = true then tb σ H1 Q else Q (.bl false) H1) : tAndV ta tb σ H Q := h
theorem k_orV (h : ta σ H fun x H1 => ∃ c, x = .bl c ∧ if c = true then Q (.bl true) H1 else tb σ H1 Q) : tOrV ta tb σ H Q := h
theorem k_notV (h : ta σ H fun x H1 => ∃ c, x = .bl c ∧ Q (.bl (!c)) H1) : tNotV ta σ H Q := h
theorem k_chain (h : ta σ H fun x H1 => tb σ H1 fun y H2 => r x y H2 fun z H3 => ∃ k, z = .bl k ∧ (if k = true then tc σ H3 fun w' H4 => r' y w' H4 Q else Q (.bl false) H3)) : tChain r r' ta tb tc σ H Q := h
theorem k_and2 {i j : Nat} {x y : Bool} (h1 : σ[i]? = some (some (.bl x))) (h2 : σ[j]? = some (some (.bl y))) (q : Q (.bl (x && y)) H) : tAndV (tVar i) (tVar j) σ H Q :=
  ⟨_, h1, x, rfl, by cases x with
    | true => rw [if_pos rfl]; exact ⟨_, h2, q⟩
    | false => rw [if_neg Bool.false_ne_true]; exact q⟩
theorem k_or2 {i j : Nat} {x y : Bool} (h1 : σ[i]? = some (some (.bl x))) (h2 : σ[j]? = some (some (.bl y))) (q : Q (.bl (x || y)) H) : tOrV (tVar i) (tVar j) σ H Q :=
  ⟨_, h1, x, rfl, by cases x with
    | true => rw [if_pos rfl]; exact q
    | false => rw [if_neg Bool.false_ne_true]; exact ⟨_, h2, q⟩⟩
theorem k_andn2 {i j : Nat} {x y : Bool} (h1 : σ[i]? = some (some (.bl x))) (h2 : σ[j]? = some (some (.bl y))) (q : Q (.bl (x && !y)) H) : tAndV (tVar i) (tNotV (tVar j)) σ H Q :=
  ⟨_, h1, x, rfl, by cases x with
    | true => rw [if_pos rfl]; exact ⟨_, h2, _, rfl, q⟩
    | false => rw [if_neg Bool.false_ne_true]; exact q⟩
/-- a truth value told -/
theorem k_bl {p : Bool → Prop} {c : Bool} (h : p c) : ∃ k, V.bl c = .bl k ∧ p k := ⟨c, rfl, h⟩
/-! ### steps: tests -/
theorem k_test {Q : Bool → Hp → Prop} (h : ta σ H fun x H' => ∃ k, x = .bl k ∧ Q k H') : tTest ta σ H Q := h
theorem k_B {Q : Bool → Hp → Prop} (h : ta σ H fun x H' => ∃ k, x = .bl k ∧ Q k H') : tB ta σ H Q := h
theorem k_and {Q : Bool → Hp → Prop} (h : t σ H fun c H1 => if c = true then u σ H1 Q else Q false H1) : tAnd t u σ H Q := h
theorem k_or {Q : Bool → Hp → Prop} (h : t σ H fun c H1 => if c = true then Q true H1 else u σ H1 Q) : tOr t u σ H Q := h
theorem k_not {Q : Bool → Hp → Prop} (h : t σ H fun c H1 => Q (!c) H1) : tNot t σ H Q := h
/-! ### branches -/
theorem if_dec {p A B : Prop} [Decidable p] (h1 : p → A) (h2 : ¬ p → B) : if decide p = true then A else B := by
  by_cases h : p
  · rw [if_pos (decide_eq_true h)]; exact h1 h
  · rw [if_neg (by rw [decide_eq_false h]; decide)]; exact h2 h
theorem if_ndec {p A B : Prop} [Decidable p] (h1 : ¬ p → A) (h2 : p → B) : if (!decide p) = true then A else B := by
  by_cases h : p
  · rw [if_neg (by rw [decide_eq_true h]; decide)]; exact h2 h
  · rw [if_pos (by rw [decide_eq_false h]; rfl)]; exact h1 h
theorem if_b {c : Bool} {A B : Prop} (h1 : c = true → A) (h2 : c = false → B) : if c = true then A else B := by
  cases c with
  | true => rw [if_pos rfl]; exact h1 rfl
  | false => rw [if_neg Bool.false_ne_true]; exact h2 rfl
theorem if_t {A B : Prop} (h : A) : if true = true then A else B := iteT h
theorem if_f {A B : Prop} (h : B) : if false = true then A else B := iteF h
theorem if_nt {A B : Prop} (h : A) : if (!false) = true then A else B := iteT h
theorem if_nf {A B : Prop} (h : B) : if (!true) = true then A else B := iteF h
theorem fin_t {c : Bool} (hc : c = true) (q : Q (.bl true) H) : Q (.bl c) H := by rw [hc]; exact q
/-! ### steps: statements -/
theorem k_seq {t u : TS} (h : t { D with nx := u D } σ H) : tSeq t u D σ H := h
theorem k_seqA {g : TG} {u : TS} (h : tAsg te g { D with nx := u D } σ H) : tSeq (tAsg te g) u D σ H := h
theorem k_seqD {u : TS} (h : tDrop te { D with nx := u D } σ H) : tSeq (tDrop te) u D σ H := h
theorem k_seqP {i j : Nat} {u : TS} (h : tPar i j tr { D with nx := u D } σ H) : tSeq (tPar i j tr) u D σ H := h
theorem k_seqI {t u : TS} {c : TT} {w : TS} (h : c σ H fun b H1 => if b = true then t { D with nx := w D } σ H1 else u { D with nx := w D } σ H1) : tSeq (tIfS c t u) w D σ H := h
theorem k_nx {f : L2.St → Hp → Prop} {r : VK} {b c : L2.St → Hp → Prop} (h : f σ H) : Ends.nx ⟨f, r, b, c⟩ σ H := h
theorem k_rt {f : L2.St → Hp → Prop} {r : VK} {b c : L2.St → Hp → Prop} (h : r v H) : Ends.rt ⟨f, r, b, c⟩ v H := h
theorem k_next (h : D.nx σ H) : tNext D σ H := h
theorem k_asg {i : Nat} (h : te σ H fun x H1 => D.nx (σ.set i (some x)) H1) : tAsg te (gName i) D σ H := h
theorem k_asgG {g : TG} (h : te σ H fun x H1 => g x σ H1 D.nx) : tAsg te g D σ H := h
theorem k_gname {Q : L2.St → Hp → Prop} (h : Q (σ.set i (some v)) H) : gName i v σ H Q := h
theorem k_gtup {tg : TGs} {n : Nat} {p : Addr} {xs : List V} {Q : L2.St → Hp → Prop} (h : SqT K H p xs) (hl : xs.length = n) (q : tg xs σ H Q) : gTup K n tg (.ref p) σ H Q := ⟨p, xs, rfl, h, hl, q⟩
theorem k_gcons {tg : TG} {ug : TGs} {vs : List V} {Q : L2.St → Hp → Prop} (q : tg v σ H fun σ' H' => ug vs σ' H' Q) : gCons tg ug (v :: vs) σ H Q := ⟨v, vs, rfl, q⟩
theorem k_gnil {Q : L2.St → Hp → Prop} (q : Q σ H) : gNil [] σ H Q := ⟨rfl, q⟩
theorem k_par {i j : Nat} (h : tr σ H fun vs H1 => ∃ v w, vs = [v, w] ∧ D.nx ((σ.set i (some v)).set j (some w)) H1) : tPar i j tr D σ H := h
theorem k_par2 {P : V → V → Prop} {x y : V} (h : P x y) : ∃ v w, [x, y] = [v, w] ∧ P v w := ⟨x, y, rfl, h⟩
theorem k_drop (h : te σ H fun _ H1 => D.nx σ H1) : tDrop te D σ H := h
theorem k_ret (h : te σ H D.rt) : tRet te D σ H := h
theorem k_retN (h : D.rt .non H) : tRetN D σ H := h
theorem k_if {t u : TS} {c : TT} (h : c σ H fun b H1 => if b = true then t D σ H1 else u D σ H1) : tIfS c t u D σ H := h
theorem k_cutI {t u w : TS} {c : TT} (P : L2.St → Hp → Prop) (h1 : ∀ N : L2.St → Hp → Prop, (∀ σ' H', P σ' H' → N σ' H') → c σ H fun b H1 => if b = true then t { D with nx := N } σ H1 else u { D with nx := N } σ H1) (h2 : ∀ σ' H', P σ' H' → w D σ' H') : tSeq (tIfS c t u) w D σ H := h1 _ h2
/-- the ways of a statement meet again: what holds behind it -/
theorem k_cut {t u : TS} (P : L2.St → Hp → Prop) (h1 : ∀ N : L2.St → Hp → Prop, (∀ σ' H', P σ' H' → N σ' H') → t { D with nx := N } σ H) (h2 : ∀ σ' H', P σ' H' → u D σ' H') : tSeq t u D σ H := h1 _ h2
/-! ### loops -/
theorem k_seqW {t : TT} {tb u : TS} (h : tWhile t tb { D with nx := u D } σ H) : tSeq (tWhile t tb) u D σ H := h
theorem k_seqF {wi : TI} {g : TG} {tb u : TS} (h : tFor wi g tb { D with nx := u D } σ H) : tSeq (tFor wi g tb) u D σ H := h
theorem k_while {t : TT} {tb : TS} (W : Nat → L2.St → Hp → Prop) (m : Nat) (h0 : W m σ H) (hs : ∀ m σ H, W m σ H → t σ H fun b H1 => if b = true then ∃ N : L2.St → Hp → Prop, (∀ σ' H', N σ' H' → ∃ m', m' < m ∧ W m' σ' H') ∧ tb { D with nx := N, ct := N, bk := D.nx } σ H1 else D.nx σ H1) : tWhile t tb D σ H := ⟨W, ⟨m, h0⟩, hs⟩
theorem k_turn {tb : TS} {W : Nat → L2.St → Hp → Prop} {m : Nat} (h : tb { D with nx := fun σ' H' => ∃ m', m' < m ∧ W m' σ' H', ct := fun σ' H' => ∃ m', m' < m ∧ W m' σ' H', bk := D.nx } σ H) : ∃ N : L2.St → Hp → Prop, (∀ σ' H', N σ' H' → ∃ m', m' < m ∧ W m' σ' H') ∧ tb { D with nx := N, ct := N, bk := D.nx } σ H := ⟨_, fun _ _ h => h, h⟩
def ForG (J : It) (g : TG) (tb : TS) (D : Ends) (σ : L2.St) (H1 : Hp) : Prop := ∃ W : Nat → Nat → L2.St → Hp → Prop, (∃ m, W 0 m σ H1) ∧ ∀ i m σ H, W i m σ H →
  (J.stop i H ∧ D.nx σ H) ∨ (J.go i H ∧ ∃ N : L2.St → Hp → Prop, (∀ σ' H', N σ' H' → ∃ m', m' < m ∧ W (i + 1) m' σ' H') ∧ ∀ x H', J.yld i H x H' → g x σ H' fun σ2 H2 => tb { D with nx := N, ct := N, bk := D.nx } σ2 H2)
theorem k_for {wi : TI} {g : TG} {tb : TS} (h : wi σ H fun J H1 => ForG J g tb D σ H1) : tFor wi g tb D σ H := h
/-! ### comprehensions over a range -/
def Rng1 (vs : List V) (H : Hp) (R : It → Hp → Prop) : Prop := ∃ j : Int, vs = [.int j] ∧ -(2 ^ 62) ≤ j ∧ j < 2 ^ 62 ∧ R (Itr 0 j.toNat) H
def Rng2 (vs : List V) (H : Hp) (R : It → Hp → Prop) : Prop := ∃ i j : Int, vs = [.int i, .int j] ∧ (-(2 ^ 62) ≤ i ∧ i < 2 ^ 62 ∧ -(2 ^ 62) ≤ j ∧ j < 2 ^ 62) ∧ R (Itr i (j - i).toNat) H
theorem k_irng1 {R : It → Hp → Prop} (h : tr σ H fun vs H1 => Rng1 vs H1 R) : iRng1 tr σ H R := h
theorem k_irng2 {R : It → Hp → Prop} (h : tr σ H fun vs H1 => Rng2 vs H1 R) : iRng2 tr σ H R := h
theorem k_rng1 {n : Int} {R : It → Hp → Prop} (h0 : -(2 ^ 62) ≤ n ∧ n < 2 ^ 62) (h : R (Itr 0 n.toNat) H) : Rng1 [V.int n] H R := ⟨n, rfl, h0.1, h0.2, h⟩
theorem k_rng2 {n : Int} {R : It → Hp → Prop} (h0 : -(2 ^ 62) ≤ m ∧ m < 2 ^ 62 ∧ -(2 ^ 62) ≤ n ∧ n < 2 ^ 62) (h : R (Itr m (n - m).toNat) H) : Rng2 [V.int m, V.int n] H R := ⟨m, n, rfl, h0, h⟩
def LcG (J : It) (H1 : Hp) (g : TG) (tt : TT) (te : TE) (vs : List Nat) (σ : L2.St) (Q : VK) : Prop := ∀ D, H1 D = none → ∃ W : Nat → Nat → Hp → Prop, (∃ m, W 0 m (upd H1 D (.lst []))) ∧ ∀ i m H, W i m H →
  (J.stop i H ∧ Q (.ref D) H) ∨ (J.go i H ∧ ∃ Nx : Hp → Prop, (∀ H', Nx H' → ∃ m', m' < m ∧ W (i + 1) m' H') ∧ ∀ x H', J.yld i H x H' → g x (wipe σ vs) H' fun σ2 H2 => wipe σ2 vs = wipe σ vs ∧ tt σ2 H2 fun b H3 =>
    if b = true then te σ2 H3 fun y H4 => ∃ acc, H4 D = some (.lst acc) ∧ acc.length < sizeLine ∧ Nx (upd H4 D (.lst (acc ++ [y]))) else Nx H3)
theorem k_lc {wi : TI} {g : TG} {tt : TT} {vs : List Nat} (h : wi σ H fun J H1 => LcG J H1 g tt te vs σ Q) : tLc wi g tt te vs σ H Q := h
/-- [e for k in range(..)]: the list of the values, each told by its place -/
theorem k_lcr {lo : Int} {n j : Nat} (L : List V) (hl : L.length = n) (hz : n ≤ 1000000)
    (hs : ∀ (i : Nat) (v : V) (H2 : Hp) (R : VK), L[i]? = some v → Same H1 H2 → (∀ H3, Same H2 H3 → R v H3) → te (σ.set j (some (.int (lo + i)))) H2 R)
    (q : ∀ D H2, H1 D = none → Same H1 H2 → H2 D = some (.lst L) → Q (.ref D) H2) :
    LcG (Itr lo n) H1 (gName j) tYes te [j] σ Q := by
  intro D hD
  refine lc_range (fun i H' => Same H1 H' ∧ H' D = some (.lst (L.take i))) ⟨same_new hD, by rw [upd_same]; rfl⟩ (fun i H' hi ⟨sm, hd⟩ => ?_) (fun H' ⟨sm, hd⟩ => q D H' hD sm (by rw [hd, List.take_of_length_le (by omega)]))
  have ew : ∀ y : V, (wipe σ [j]).set j (some y) = σ.set j (some y) := fun y => by
    show ((σ.set j none).set j (some y)) = _
    rw [List.set_set]
  show wipe ((wipe σ [j]).set j _) [j] = wipe σ [j] ∧ _
  rw [ew]
  refine ⟨by show (σ.set j _).set j none = σ.set j none; rw [List.set_set], ?_⟩
  refine hs i (L[i]'(by omega)) H' _ (List.getElem?_eq_getElem (by omega)) sm fun H3 s3 => ?_
  refine ⟨L.take i, s3 _ _ hd, Nat.lt_of_le_of_lt (Nat.le_trans (by rw [List.length_take]; exact Nat.min_le_left _ _) (show i ≤ 1000000 by omega)) (by rw [sizeLine_eq]; decide), same_mut (sm.trans s3) hD, ?_⟩
  rw [upd_same, List.take_add_one, List.getElem?_eq_getElem (show i < L.length by omega)]
  rfl
/-! ### comprehensions and loops over a list, a tuple -/
def SqI (J : Addr → It) (ok : Addr → Hp → Prop) (x : V) (H : Hp) (R : It → Hp → Prop) : Prop := ∃ a, x = .ref a ∧ ok a H ∧ R (J a) H
theorem k_itup {tl : TE} {R : It → Hp → Prop} (h : tl σ H fun x H1 => SqI (Itt K) (fun a H => ∃ xs, SqT K H a xs) x H1 R) : iTup K tl σ H R := h
theorem k_ilst {tl : TE} {R : It → Hp → Prop} (h : tl σ H fun x H1 => SqI (Itl K) (fun a H => ∃ xs, SqL K H a xs) x H1 R) : iList K tl σ H R := h
theorem k_sqt {p : Addr} {xs : List V} {R : It → Hp → Prop} (h : SqT K H p xs) (q : R (Itt K p) H) : SqI (Itt K) (fun a H => ∃ xs, SqT K H a xs) (.ref p) H R := ⟨p, rfl, ⟨xs, h⟩, q⟩
theorem k_sql {p : Addr} {xs : List V} {R : It → Hp → Prop} (h : SqL K H p xs) (q : R (Itl K p) H) : SqI (Itl K) (fun a H => ∃ xs, SqL K H a xs) (.ref p) H R := ⟨p, rfl, ⟨xs, h⟩, q⟩
theorem wipe_set {σ : L2.St} {j : Nat} {y : V} : (wipe σ [j]).set j (some y) = σ.set j (some y) := by
  show ((σ.set j none).set j (some y)) = _
  rw [List.set_set]
theorem wipe_set2 {σ : L2.St} {j : Nat} {y : V} : wipe (σ.set j (some y)) [j] = wipe σ [j] := by
  show (σ.set j _).set j none = σ.set j none
  rw [List.set_set]
/-- [e for x in t], t a tuple: the list of the values -/
theorem k_lct {a : Addr} {xs : List V} {j : Nat} (hx : SqT K H1 a xs) (L : List V) (hl : L.length = xs.length) (hz : xs.length ≤ 1000000)
    (hs : ∀ (i : Nat) (x v : V) (H2 : Hp) (R : VK), xs[i]? = some x → L[i]? = some v → Same H1 H2 → (∀ H3, Same H2 H3 → R v H3) → te (σ.set j (some x)) H2 R)
    (q : ∀ D H2, H1 D = none → Same H1 H2 → H2 D = some (.lst L) → Q (.ref D) H2) : LcG (Itt K a) H1 (gName j) tYes te [j] σ Q := by
  intro D hD
  refine lc_tup (fun i H' => Same H1 H' ∧ H' D = some (.lst (L.take i))) ⟨same_new hD, by rw [upd_same]; rfl⟩ (fun i H' _ ⟨sm, _⟩ => same_t sm hx) (fun i x H' hi ⟨sm, hd⟩ => ?_) (fun H' ⟨sm, hd⟩ => q D H' hD sm (by rw [hd, List.take_of_length_le (by omega)]))
  have hil := (List.getElem?_eq_some_iff.mp hi).1
  show wipe ((wipe σ [j]).set j _) [j] = wipe σ [j] ∧ _
  rw [wipe_set]
  refine ⟨wipe_set2, ?_⟩
  refine hs i x (L[i]'(by omega)) H' _ hi (List.getElem?_eq_getElem (by omega)) sm fun H3 s3 => ?_
  refine ⟨L.take i, s3 _ _ hd, Nat.lt_of_le_of_lt (Nat.le_trans (by rw [List.length_take]; exact Nat.min_le_left _ _) (show i ≤ 1000000 by omega)) (by rw [sizeLine_eq]; decide), same_mut (sm.trans s3) hD, ?_⟩
  rw [upd_same, List.take_add_one, List.getElem?_eq_getElem (show i < L.length by omega)]
  rfl
/-- [e for x in xs], xs a list -/
theorem k_lcl {a : Addr} {xs : List V} {j : Nat} (hx : SqL K H1 a xs) (L : List V) (hl : L.length = xs.length) (hz : xs.length ≤ 1000000)
    (hs : ∀ (i : Nat) (x v : V) (H2 : Hp) (R : VK), xs[i]? = some x → L[i]? = some v → Same H1 H2 → (∀ H3, Same H2 H3 → R v H3) → te (σ.set j (some x)) H2 R)
    (q : ∀ D H2, H1 D = none → Same H1 H2 → H2 D = some (.lst L) → Q (.ref D) H2) : LcG (Itl K a) H1 (gName j) tYes te [j] σ Q := by
  intro D hD
  refine lc_list (fun i H' => Same H1 H' ∧ H' D = some (.lst (L.take i))) ⟨same_new hD, by rw [upd_same]; rfl⟩ (fun i H' _ ⟨sm, _⟩ => same_l sm hx) (fun i x H' hi ⟨sm, hd⟩ => ?_) (fun H' ⟨sm, hd⟩ => q D H' hD sm (by rw [hd, List.take_of_length_le (by omega)]))
  have hil := (List.getElem?_eq_some_iff.mp hi).1
  show wipe ((wipe σ [j]).set j _) [j] = wipe σ [j] ∧ _
  rw [wipe_set]
  refine ⟨wipe_set2, ?_⟩
  refine hs i x (L[i]'(by omega)) H' _ hi (List.getElem?_eq_getElem (by omega)) sm fun H3 s3 => ?_
  refine ⟨L.take i, s3 _ _ hd, Nat.lt_of_le_of_lt (Nat.le_trans (by rw [List.length_take]; exact Nat.min_le_left _ _) (show i ≤ 1000000 by omega)) (by rw [sizeLine_eq]; decide), same_mut (sm.trans s3) hD, ?_⟩
  rw [upd_same, List.take_add_one, List.getElem?_eq_getElem (show i < L.length by omega)]
  rfl
theorem rgc_pos {a b c : Int} (ha : 0 ≤ a) (ha' : a ≤ 1000000000) (hb : 0 ≤ b) (hb' : b ≤ 1000000000) (hc : 1 ≤ c) (hc' : c ≤ 1000000000) :
    ∃ n : Nat, RgC a b c n ∧ (n : Int) ≤ b ∧ ∀ i : Nat, i < n ↔ a + i * c < b := by
  have hpos : (0 : Int) ≤ Builtin.Range.rangeSize a b c := by
    unfold Builtin.Range.rangeSize
    rw [if_pos (by omega)]
    split
    · have := Int.ediv_nonneg (a := b - a - 1) (b := c) (by omega) (by omega); omega
    · omega
  have hle : Builtin.Range.rangeSize a b c ≤ b := by
    unfold Builtin.Range.rangeSize
    rw [if_pos (by omega)]
    split
    · have := Int.ediv_le_self c (show 0 ≤ b - a - 1 by omega); omega
    · omega
  obtain ⟨n, hn⟩ := Int.eq_ofNat_of_zero_le hpos
  refine ⟨n, ⟨by omega, by omega, ?_, hn⟩, by omega, fun i => ?_⟩
  · unfold Builtin.Range.small
    simp only [Builtin.Range.rangeFitsLong, Bool.and_eq_true, Bool.or_eq_true, decide_eq_true_eq, beq_iff_eq]
    rw [if_pos (show c > 0 by omega)]
    simp only [Bool.and_eq_true, decide_eq_true_eq]
    refine ⟨⟨⟨⟨?_, ?_⟩, ?_⟩, ?_⟩, .inr ?_⟩ <;> omega
  · unfold Builtin.Range.rangeSize at hn
    rw [if_pos (show c > 0 by omega)] at hn
    have e1 := Int.emod_add_mul_ediv (b - a - 1) c
    have e2 := Int.emod_nonneg (b - a - 1) (show c ≠ 0 by omega)
    have e3 := Int.emod_lt_of_pos (b - a - 1) (show 0 < c by omega)
    by_cases hab : a < b
    · rw [if_pos hab] at hn
      generalize (b - a - 1) / c = q at *
      constructor
      · intro hi
        have : c * (i : Int) ≤ c * q := Int.mul_le_mul_of_nonneg_left (by omega) (by omega)
        rw [Int.mul_comm (i : Int)]; omega
      · intro hi
        by_cases h : (i : Int) ≤ q
        · omega
        · have : c * (q + 1) ≤ c * (i : Int) := Int.mul_le_mul_of_nonneg_left (by omega) (by omega)
          rw [Int.mul_add] at this
          rw [Int.mul_comm (i : Int)] at hi; omega
    · rw [if_neg hab] at hn
      constructor
      · intro hi; omega
      · intro hi
        have : 0 ≤ (i : Int) * c := Int.mul_nonneg (by omega) (by omega)
        omega
def Rng3 (vs : List V) (H : Hp) (R : It → Hp → Prop) : Prop := ∃ (i j c : Int) (n : Nat), vs = [.int i, .int j, .int c] ∧ RgC i j c n ∧ R (Itc i c n) H
theorem k_irng3 {R : It → Hp → Prop} (h : tr σ H fun vs H1 => Rng3 vs H1 R) : iRng3 tr σ H R := h
theorem k_rng3 {i j c : Int} {n : Nat} {R : It → Hp → Prop} (h0 : RgC i j c n) (h : R (Itc i c n) H) : Rng3 [V.int i, V.int j, V.int c] H R := ⟨i, j, c, n, rfl, h0, h⟩
/-! ### list(range(..)), list + list -/
def LstRg (x : V) (H : Hp) (Q : VK) : Prop := ∃ n, x = .int n ∧ (RgOk 0 n ∧ ∀ q, H q = none → Q (.ref q) (upd H q (.lst (rgV 0 n))))
theorem k_lstrg (h : ta σ H fun x H1 => LstRg x H1 Q) : tLstRg (tRg1 ta) σ H Q := h
theorem k_lstrgV (h0 : 0 ≤ a ∧ a ≤ 16777216) (h : ∀ p H2, H p = none → Same H H2 → H2 p = some (.lst (rgV 0 a)) → Q (.ref p) H2) : LstRg (.int a) H Q :=
  ⟨a, rfl, RgOk.of_le (by omega) h0.2 (by omega) h0.1, fun p hp => h p _ hp (same_new hp) upd_same⟩
/-! ### any comprehension: over what tells n items one by one, with a test -/
theorem k_lcG {J : It} {n j : Nat} {item : Nat → V} {tt : TT} (p : Nat → Bool) (g : Nat → V) (hz : n ≤ 1000000)
    (hgo : ∀ i H2, Same H1 H2 → i < n → J.go i H2) (hy : ∀ i H2 x H', Same H1 H2 → i < n → J.yld i H2 x H' → H' = H2 ∧ x = item i) (hst : ∀ H2, Same H1 H2 → J.stop n H2)
    (ht : ∀ i H2 (R : Bool → Hp → Prop), i < n → Same H1 H2 → (∀ H3, Same H2 H3 → R (p i) H3) → tt (σ.set j (some (item i))) H2 R)
    (hv : ∀ i H2 (R : VK), i < n → p i = true → Same H1 H2 → (∀ H3, Same H2 H3 → R (g i) H3) → te (σ.set j (some (item i))) H2 R)
    (q : ∀ D H2, H1 D = none → Same H1 H2 → H2 D = some (.lst (((List.range n).filter p).map g)) → Q (.ref D) H2) : LcG J H1 (gName j) tt te [j] σ Q := by
  intro D hD
  refine ⟨fun i m H' => m = n - i ∧ i ≤ n ∧ Same H1 H' ∧ H' D = some (.lst (((List.range i).filter p).map g)), ⟨n, rfl, Nat.zero_le _, same_new hD, by rw [upd_same]; rfl⟩, ?_⟩
  rintro i m H' ⟨rfl, hi, sm, hd⟩
  by_cases hlt : i < n
  · refine .inr ⟨hgo i H' sm hlt, fun H'' => i + 1 ≤ n ∧ Same H1 H'' ∧ H'' D = some (.lst (((List.range (i + 1)).filter p).map g)), fun H'' ⟨a, b, c⟩ => ⟨n - (i + 1), by omega, rfl, a, b, c⟩, fun x H'' y => ?_⟩
    obtain ⟨rfl, rfl⟩ := hy i H' x H'' sm hlt y
    show wipe ((wipe σ [j]).set j _) [j] = wipe σ [j] ∧ _
    rw [wipe_set]
    refine ⟨wipe_set2, ht i H'' _ hlt sm fun H3 s3 => ?_⟩
    have er : ((List.range (i + 1)).filter p).map g = ((List.range i).filter p).map g ++ (if p i = true then [g i] else []) := by
      rw [List.range_succ, List.filter_append, List.map_append]
      congr 1
      by_cases h : p i = true <;> simp [h]
    cases hp : p i with
    | true =>
      refine hv i H3 _ hlt hp (sm.trans s3) fun H4 s4 => ?_
      refine ⟨_, s4 _ _ (s3 _ _ hd), ?_, hlt, same_mut ((sm.trans s3).trans s4) hD, ?_⟩
      · rw [List.length_map]
        refine Nat.lt_of_le_of_lt (Nat.le_trans (List.length_filter_le _ _) (by rw [List.length_range]; exact (show i ≤ 1000000 by omega))) (by rw [sizeLine_eq]; decide)
      · rw [upd_same, er, if_pos hp]
    | false =>
      refine ⟨hlt, sm.trans s3, ?_⟩
      rw [s3 _ _ hd, er, if_neg (by rw [hp]; decide), List.append_nil]
  · have e : i = n := by omega
    subst e
    exact .inl ⟨hst H' sm, q D H' hD sm hd⟩
theorem k_lcrf {lo : Int} {n j : Nat} {tt : TT} (p : Nat → Bool) (g : Nat → V) (hz : n ≤ 1000000)
    (ht : ∀ i H2 (R : Bool → Hp → Prop), i < n → Same H1 H2 → (∀ H3, Same H2 H3 → R (p i) H3) → tt (σ.set j (some (.int (lo + i)))) H2 R)
    (hv : ∀ i H2 (R : VK), i < n → p i = true → Same H1 H2 → (∀ H3, Same H2 H3 → R (g i) H3) → te (σ.set j (some (.int (lo + i)))) H2 R)
    (q : ∀ D H2, H1 D = none → Same H1 H2 → H2 D = some (.lst (((List.range n).filter p).map g)) → Q (.ref D) H2) : LcG (Itr lo n) H1 (gName j) tt te [j] σ Q :=
  k_lcG (item := fun i => .int (lo + i)) p g hz (fun i H2 _ h => h) (fun i H2 x H' _ _ y => ⟨y.1, y.2⟩) (fun H2 _ => Nat.le_refl _) ht hv q
theorem k_lccf {lo c : Int} {n j : Nat} {tt : TT} (p : Nat → Bool) (g : Nat → V) (hz : n ≤ 1000000)
    (ht : ∀ i H2 (R : Bool → Hp → Prop), i < n → Same H1 H2 → (∀ H3, Same H2 H3 → R (p i) H3) → tt (σ.set j (some (.int (lo + (i : Nat) * c)))) H2 R)
    (hv : ∀ i H2 (R : VK), i < n → p i = true → Same H1 H2 → (∀ H3, Same H2 H3 → R (g i) H3) → te (σ.set j (some (.int (lo + (i : Nat) * c)))) H2 R)
    (q : ∀ D H2, H1 D = none → Same H1 H2 → H2 D = some (.lst (((List.range n).filter p).map g)) → Q (.ref D) H2) : LcG (Itc lo c n) H1 (gName j) tt te [j] σ Q :=
  k_lcG (item := fun i => .int (lo + (i : Nat) * c)) p g hz (fun i H2 _ h => h) (fun i H2 x H' _ _ y => ⟨y.1, y.2⟩) (fun H2 _ => Nat.le_refl _) ht hv q
theorem k_lclf {a : Addr} {xs : List V} {j : Nat} {tt : TT} (hx : SqL K H1 a xs) (p : Nat → Bool) (g : Nat → V) (hz : xs.length ≤ 1000000)
    (ht : ∀ i H2 (R : Bool → Hp → Prop), i < xs.length → Same H1 H2 → (∀ H3, Same H2 H3 → R (p i) H3) → tt (σ.set j (some (xs.getD i .non))) H2 R)
    (hv : ∀ i H2 (R : VK), i < xs.length → p i = true → Same H1 H2 → (∀ H3, Same H2 H3 → R (g i) H3) → te (σ.set j (some (xs.getD i .non))) H2 R)
    (q : ∀ D H2, H1 D = none → Same H1 H2 → H2 D = some (.lst (((List.range xs.length).filter p).map g)) → Q (.ref D) H2) : LcG (Itl K a) H1 (gName j) tt te [j] σ Q :=
  k_lcG (item := fun i => xs.getD i .non) p g hz (fun i H2 s h => ⟨xs, xs[i], same_l s hx, by simp [h]⟩) (fun i H2 x H' s h y => by
    obtain ⟨e, y⟩ := y
    refine ⟨e, ?_⟩
    have := y xs (same_l s hx)
    rw [List.getD_eq_getElem?_getD, this]; rfl) (fun H2 s => ⟨xs, same_l s hx, Nat.le_refl _⟩) ht hv q
theorem range_all {α : Type} (xs : List α) (d : α) : ((List.range xs.length).filter fun _ => true).map (fun i => xs.getD i d) = xs := by
  rw [List.filter_eq_self.mpr (fun _ _ => rfl)]
  apply List.ext_getElem
  · simp
  · intro i h1 h2
    simp [List.getD_eq_getElem?_getD, List.getElem?_eq_getElem h2]
/-! ### operators by values -/
def rAddA : R2 := fun x y H Q => rI0 (fun i j => .int (i + j)) x y H Q ∨ (∃ i j, x = .str i ∧ y = .str j ∧ i.length + j.length ≤ sizeLine ∧ Q (.str (i ++ j)) H) ∨ rCat x y H Q
theorem op_addA {X : Cx} : OpR X (binaryOp .Add) rAddA := op_add.or (op_add_str.or op_cat)
theorem k_add (q : Q (.int (a + b)) H) : rAddA (.int a) (.int b) H Q := .inl ⟨a, b, rfl, rfl, q⟩
theorem k_cat {l c : Addr} {xs zs : List V} (h1 : H l = some (.lst xs)) (h2 : H c = some (.lst zs)) (hl : xs.length + zs.length ≤ 16000000) (h : ∀ p H2, H p = none → Same H H2 → H2 p = some (.lst (xs ++ zs)) → Q (.ref p) H2) : rAddA (.ref l) (.ref c) H Q :=
  .inr (.inr ⟨l, c, xs, zs, rfl, rfl, h1, h2, Nat.le_trans hl (by rw [sizeLine_eq]; decide), fun p hp => h p _ hp (same_new hp) upd_same⟩)
def rEqA (K : PySem.W.Frag) : R2 := fun x y H Q => rEq x y H Q ∨ rEqD K x y H Q
def rNeA (K : PySem.W.Frag) : R2 := fun x y H Q => rNe x y H Q ∨ rNeD K x y H Q
theorem op_eqA {X : Cx} (hu : X.A.units + 64 < cLine) : OpR X (compareOp .Eq) (rEqA X.K) := op_eq.or (op_eqD hu)
theorem op_neA {X : Cx} (hu : X.A.units + 64 < cLine) : OpR X (compareOp .NotEq) (rNeA X.K) := op_ne.or (op_neD hu)
theorem dec_i : decide (V.int a = V.int b) = decide (a = b) := by
  by_cases h : a = b
  · subst h; simp
  · rw [decide_eq_false h, decide_eq_false (fun e => h (V.int.inj e))]
theorem dec_b {a b : Bool} : decide (V.bl a = V.bl b) = decide (a = b) := by
  by_cases h : a = b
  · subst h; simp
  · rw [decide_eq_false h, decide_eq_false (fun e => h (V.bl.inj e))]
theorem dec_s {a b : Str} : decide (V.str a = V.str b) = decide (a = b) := by
  by_cases h : a = b
  · subst h; simp
  · rw [decide_eq_false h, decide_eq_false (fun e => h (V.str.inj e))]
theorem k_eq (q : Q (.bl (decide (a = b))) H) : rEqA K (.int a) (.int b) H Q := .inl ⟨rfl, by rw [dec_i]; exact q⟩
theorem k_ne (q : Q (.bl (!decide (a = b))) H) : rNeA K (.int a) (.int b) H Q := .inl ⟨rfl, by rw [dec_i]; exact q⟩
theorem k_eqb {a b : Bool} (q : Q (.bl (decide (a = b))) H) : rEqA K (.bl a) (.bl b) H Q := .inl ⟨rfl, by rw [dec_b]; exact q⟩
theorem k_neb {a b : Bool} (q : Q (.bl (!decide (a = b))) H) : rNeA K (.bl a) (.bl b) H Q := .inl ⟨rfl, by rw [dec_b]; exact q⟩
theorem k_eqs {a b : Str} (q : Q (.bl (decide (a = b))) H) : rEqA K (.str a) (.str b) H Q := .inl ⟨rfl, by rw [dec_s]; exact q⟩
theorem k_nes {a b : Str} (q : Q (.bl (!decide (a = b))) H) : rNeA K (.str a) (.str b) H Q := .inl ⟨rfl, by rw [dec_s]; exact q⟩
theorem k_ixT {p : Addr} {xs : List V} {i : Int} (h : SqT K H p xs) (ha : atI xs i = some v) (q : Q v H) : rIx K (.ref p) (.int i) H Q := .inr (.inl ⟨p, xs, i, v, rfl, rfl, h, ha, q⟩)
theorem k_ixL {p : Addr} {xs : List V} {i : Int} (h : SqL K H p xs) (ha : atI xs i = some v) (q : Q v H) : rIx K (.ref p) (.int i) H Q := .inl ⟨p, xs, i, v, rfl, rfl, h, ha, q⟩
theorem inV_ints {a : Int} : ∀ l : List Int, inV (.int a) (l.map V.int) = decide (a ∈ l)
  | [] => rfl
  | x :: r => by
    have ih := inV_ints (a := a) r
    show (inV (.int a) (.int x :: r.map V.int)) = _
    unfold inV at ih ⊢
    rw [List.any_cons, ih]
    have e : eqV (.int x) (.int a) = decide (a = x) := by
      show (x == a) = decide (a = x)
      by_cases h : a = x
      · subst h; simp
      · rw [decide_eq_false h]; simpa using fun e => h e.symm
    by_cases h : a = x
    · subst h; simp [e]
    · simp [e, h]
theorem flat_ints : ∀ l : List Int, (l.map V.int).all flatV = true
  | [] => rfl
  | x :: r => by rw [List.map_cons, List.all_cons, flat_ints r]; rfl
theorem k_inL {neg : Bool} {p : Addr} {l : List Int} (h : SqL K H p (l.map V.int)) (q : Q (.bl (if neg then !decide (a ∈ l) else decide (a ∈ l))) H) : rIn K neg (.int a) (.ref p) H Q :=
  ⟨p, l.map V.int, rfl, .inl h, rfl, flat_ints l, by rw [inV_ints]; exact q⟩
theorem k_notinL {p : Addr} {l : List Int} (h : SqL K H p (l.map V.int)) (q : Q (.bl (!decide (a ∈ l))) H) : rIn K true (.int a) (.ref p) H Q := k_inL (neg := true) h q
theorem k_inL' {p : Addr} {l : List Int} (h : SqL K H p (l.map V.int)) (q : Q (.bl (decide (a ∈ l))) H) : rIn K false (.int a) (.ref p) H Q := k_inL (neg := false) h q
theorem inV2 {x y : Int} : inV (.int a) [.int x, .int y] = decide (a = x ∨ a = y) := by
  have h := inV_ints (a := a) [x, y]
  have e : (decide (a ∈ [x, y])) = decide (a = x ∨ a = y) := by
    have : a ∈ [x, y] ↔ (a = x ∨ a = y) := by simp
    simp [this]
  exact h.trans e
theorem k_notin2 {p : Addr} {x y : Int} (h : SqL K H p [.int x, .int y]) (q : Q (.bl (!decide (a = x ∨ a = y))) H) : rIn K true (.int a) (.ref p) H Q :=
  ⟨p, _, rfl, .inl h, rfl, rfl, by rw [inV2]; exact q⟩
theorem k_in2 {p : Addr} {x y : Int} (h : SqL K H p [.int x, .int y]) (q : Q (.bl (decide (a = x ∨ a = y))) H) : rIn K false (.int a) (.ref p) H Q :=
  ⟨p, _, rfl, .inl h, rfl, rfl, by rw [inV2]; exact q⟩
def rIsN : R2 := fun x y H Q => y = .non ∧ Q (.bl (decide (x = .non))) H
def rNotN : R2 := fun x y H Q => y = .non ∧ Q (.bl (!decide (x = .non))) H
theorem kb_isN {X : Cx} : OpR X (compareOp .Is) rIsN := op_isN
theorem kb_notN {X : Cx} : OpR X (compareOp .IsNot) rNotN := op_notN
theorem k_isN_n (q : Q (.bl true) H) : rIsN .non .non H Q := ⟨rfl, q⟩
theorem k_isN_i (q : Q (.bl false) H) : rIsN (.int a) .non H Q := ⟨rfl, q⟩
theorem k_isN_r {p : Addr} (q : Q (.bl false) H) : rIsN (.ref p) .non H Q := ⟨rfl, q⟩
theorem k_notN_n (q : Q (.bl false) H) : rNotN .non .non H Q := ⟨rfl, q⟩
theorem k_notN_i (q : Q (.bl true) H) : rNotN (.int a) .non H Q := ⟨rfl, q⟩
theorem k_notN_r {p : Addr} (q : Q (.bl true) H) : rNotN (.ref p) .non H Q := ⟨rfl, q⟩
/-! ### == of pairs and lists of ints -/
theorem dp_ints : ∀ l : List Int, DpAll K H (l.map V.int) (l.map PyData.int)
  | [] => .nil
  | x :: r => .cons (.int x) (dp_ints r)
theorem eqv_ints : ∀ l m : List Int, PyData.eqvAll (l.map PyData.int) (m.map PyData.int) = decide (l = m)
  | [], [] => by simp [PyData.eqvAll]
  | [], _ :: _ => by simp [PyData.eqvAll]
  | _ :: _, [] => by simp [PyData.eqvAll]
  | x :: r, y :: t => by
    rw [List.map_cons, List.map_cons, PyData.eqvAll, eqv_ints r t, PyData.eqv]
    by_cases h : x = y <;> simp [h]
theorem shaped_tints (l : List Int) : SeqAt.shaped (.tuple (l.map PyData.int)) = true := by
  have h1 : ∀ l : List Int, PyData.canLayAll0 (l.map PyData.int) = true := fun l => by
    induction l with
    | nil => rfl
    | cons x r ih => rw [List.map_cons]; simp [PyData.canLayAll0, PyData.canLay0, ih]
  have h2 : ∀ l : List Int, PyData.depthAll (l.map PyData.int) ≤ 1 := fun l => by
    induction l with
    | nil => simp [PyData.depthAll]
    | cons x r ih => rw [List.map_cons]; simp [PyData.depthAll, PyData.depth]; omega
  have := h2 l
  simp [SeqAt.shaped, PyData.canLay0, PyData.depth, h1 l]
  omega
theorem shaped_lints (l : List Int) : SeqAt.shaped (.list (l.map PyData.int)) = true := by
  have h1 : ∀ l : List Int, PyData.canLayAll0 (l.map PyData.int) = true := fun l => by
    induction l with
    | nil => rfl
    | cons x r ih => rw [List.map_cons]; simp [PyData.canLayAll0, PyData.canLay0, ih]
  have h2 : ∀ l : List Int, PyData.depthAll (l.map PyData.int) ≤ 1 := fun l => by
    induction l with
    | nil => simp [PyData.depthAll]
    | cons x r ih => rw [List.map_cons]; simp [PyData.depthAll, PyData.depth]; omega
  have := h2 l
  simp [SeqAt.shaped, PyData.canLay0, PyData.depth, h1 l]
  omega
theorem k_eqT {p q : Addr} {l m : List Int} (h1 : SqT K H p (l.map V.int)) (h2 : SqT K H q (m.map V.int)) (r : Q (.bl (decide (l = m))) H) : rEqA K (.ref p) (.ref q) H Q :=
  .inr ⟨_, _, .tup h1 (dp_ints l), .tup h2 (dp_ints m), shaped_tints l, shaped_tints m, by rw [PyData.eqv, eqv_ints]; exact r⟩
theorem k_neT {p q : Addr} {l m : List Int} (h1 : SqT K H p (l.map V.int)) (h2 : SqT K H q (m.map V.int)) (r : Q (.bl (!decide (l = m))) H) : rNeA K (.ref p) (.ref q) H Q :=
  .inr ⟨_, _, .tup h1 (dp_ints l), .tup h2 (dp_ints m), shaped_tints l, shaped_tints m, by rw [PyData.eqv, eqv_ints]; exact r⟩
theorem k_eqL {p q : Addr} {l m : List Int} (h1 : SqL K H p (l.map V.int)) (h2 : SqL K H q (m.map V.int)) (r : Q (.bl (decide (l = m))) H) : rEqA K (.ref p) (.ref q) H Q :=
  .inr ⟨_, _, .lst h1 (dp_ints l), .lst h2 (dp_ints m), shaped_lints l, shaped_lints m, by rw [PyData.eqv, eqv_ints]; exact r⟩
theorem k_neL {p q : Addr} {l m : List Int} (h1 : SqL K H p (l.map V.int)) (h2 : SqL K H q (m.map V.int)) (r : Q (.bl (!decide (l = m))) H) : rNeA K (.ref p) (.ref q) H Q :=
  .inr ⟨_, _, .lst h1 (dp_ints l), .lst h2 (dp_ints m), shaped_lints l, shaped_lints m, by rw [PyData.eqv, eqv_ints]; exact r⟩
theorem k_eqP {p q : Addr} {c d : Int} (h1 : SqT K H p [.int a, .int b]) (h2 : SqT K H q [.int c, .int d]) (r : Q (.bl (decide (a = c ∧ b = d))) H) : rEqA K (.ref p) (.ref q) H Q :=
  k_eqT (l := [a, b]) (m := [c, d]) h1 h2 (by
    have e : decide ([a, b] = [c, d]) = decide (a = c ∧ b = d) := by simp
    rw [e]; exact r)
theorem k_neP {p q : Addr} {c d : Int} (h1 : SqT K H p [.int a, .int b]) (h2 : SqT K H q [.int c, .int d]) (r : Q (.bl (!decide (a = c ∧ b = d))) H) : rNeA K (.ref p) (.ref q) H Q :=
  k_neT (l := [a, b]) (m := [c, d]) h1 h2 (by
    have e : decide ([a, b] = [c, d]) = decide (a = c ∧ b = d) := by simp
    rw [e]; exact r)
/-! ### calls of built-ins by values -/
def rAbs : List V → Hp → VK → Prop := fun xs H Q => ∃ i, xs = [.int i] ∧ Q (.int (if i < 0 then -i else i)) H
theorem cb_abs {X : Cx} : CallR X (.builtin "abs") rAbs := call_abs
theorem k_abs (q : Q (.int (if a < 0 then -a else a)) H) : rAbs [.int a] H Q := ⟨a, rfl, q⟩
def rMax2 : List V → Hp → VK → Prop := fun xs H Q => ∃ i j, xs = [.int i, .int j] ∧ Q (.int (if j > i then j else i)) H
theorem cb_max2 {X : Cx} (hc : X.calm = true) : CallR X (.builtin "max") rMax2 := call_max2 hc
theorem k_max2 (q : ∀ k : Int, (k = a ∨ k = b) → a ≤ k → b ≤ k → Q (.int k) H) : rMax2 [.int a, .int b] H Q := ⟨a, b, rfl, by split <;> exact q _ (by omega) (by omega) (by omega)⟩
def rMin2 : List V → Hp → VK → Prop := fun xs H Q => ∃ i j, xs = [.int i, .int j] ∧ Q (.int (if j < i then j else i)) H
theorem cb_min2 {X : Cx} (hc : X.calm = true) : CallR X (.builtin "min") rMin2 := call_min2 hc
theorem k_min2 (q : ∀ k : Int, (k = a ∨ k = b) → k ≤ a → k ≤ b → Q (.int k) H) : rMin2 [.int a, .int b] H Q := ⟨a, b, rfl, by split <;> exact q _ (by omega) (by omega) (by omega)⟩
def rLen (K : PySem.W.Frag) : List V → Hp → VK → Prop := fun xs H Q => ∃ x n, xs = [x] ∧ LenV K x H n ∧ Q (.int n) H
theorem cb_len {X : Cx} : CallR X (.builtin "len") (rLen X.K) := call_len
theorem k_lenL {p : Addr} {xs : List V} (h : SqL K H p xs) (q : Q (.int (xs.length : Int)) H) : rLen K [.ref p] H Q := ⟨.ref p, xs.length, rfl, .inl ⟨xs, h, rfl⟩, q⟩
theorem k_lenT {p : Addr} {xs : List V} (h : SqT K H p xs) (q : Q (.int (xs.length : Int)) H) : rLen K [.ref p] H Q := ⟨.ref p, xs.length, rfl, .inr ⟨xs, h, rfl⟩, q⟩
def rDivmod : List V → Hp → VK → Prop := fun xs H Q => ∃ i j, xs = [.int i, .int j] ∧ CDivP i j ∧ ∀ p, H p = none → Q (.ref p) (upd H p (.tup [.int (i / j), .int (i % j)]))
theorem cb_divmod {X : Cx} : CallR X (.builtin "divmod") rDivmod := call_divmodW
theorem k_divmod (c : CDivP a b) (h : ∀ p H2, H p = none → Same H H2 → H2 p = some (.tup [.int (a / b), .int (a % b)]) → Q (.ref p) H2) : rDivmod [.int a, .int b] H Q :=
  ⟨a, b, rfl, c, fun p hp => h p _ hp (same_new hp) upd_same⟩
theorem k_sum {p : Addr} {l : List Int} (h : SqL K H p (l.map V.int)) (q : Q (.int l.sum) H) : rSum K [.ref p] H Q := ⟨p, l, rfl, h, q⟩
theorem k_all {p : Addr} {l : List Bool} (h : SqL K H p (l.map V.bl)) (q : Q (.bl (l.all id)) H) : rAll K [.ref p] H Q := ⟨p, l, rfl, h, q⟩
theorem k_any {p : Addr} {l : List Bool} (h : SqL K H p (l.map V.bl)) (q : Q (.bl (l.any id)) H) : rAny K [.ref p] H Q := ⟨p, l, rfl, h, q⟩
def BitsV (x : V) (H : Hp) (Q : VK) : Prop := ∃ i, x = .int i ∧ Q (.int (Builtin.Int.intBits i : Nat)) H
theorem k_bits (h : ta σ H fun x H1 => BitsV x H1 Q) : tBits ta σ H Q := h
theorem k_bitsV (q : Q (.int (Builtin.Int.intBits a : Nat)) H) : BitsV (.int a) H Q := ⟨a, rfl, q⟩
def rInt : List V → Hp → VK → Prop := fun xs H Q => (∃ i, xs = [.int i] ∧ Q (.int i) H) ∨ ∃ k, xs = [.bl k] ∧ Q (.int (if k then 1 else 0)) H
theorem cb_int {X : Cx} : CallR X (.type "int") rInt := call_int1
theorem k_intI (q : Q (.int a) H) : rInt [.int a] H Q := .inl ⟨a, rfl, q⟩
theorem k_intB {c : Bool} (q : Q (.int (if c then 1 else 0)) H) : rInt [.bl c] H Q := .inr ⟨c, rfl, q⟩
theorem k_isi_ii (q : Q (.bl true) H) : rIsi K [.int a, .ty "int"] H Q := ⟨.int a, .ty "int", .type "int", .type "int", true, rfl, .ty _, .base (.int _), kit_ty (by decide +kernel), q⟩
theorem k_isi_ib (q : Q (.bl false) H) : rIsi K [.int a, .ty "bool"] H Q := ⟨.int a, .ty "bool", .type "int", .type "bool", false, rfl, .ty _, .base (.int _), kit_ty (by decide +kernel), q⟩
theorem k_isi_bb {c : Bool} (q : Q (.bl true) H) : rIsi K [.bl c, .ty "bool"] H Q := ⟨.bl c, .ty "bool", .type "bool", .type "bool", true, rfl, .ty _, .base (.bl _), kit_ty (by decide +kernel), q⟩
theorem k_isi_it (q : Q (.bl false) H) : rIsi K [.int a, .ty "tuple"] H Q := ⟨.int a, .ty "tuple", .type "int", .type "tuple", false, rfl, .ty _, .base (.int _), kit_ty (by decide +kernel), q⟩
theorem tyx_t {p : Addr} {xs : List V} (h : SqT K H p xs) : TyX K H (.ref p) (.type "tuple") := by
  rcases h with (h | ⟨o, h⟩) | ⟨o, its, n, l, c, _⟩
  · exact .base (.tup h)
  · exact .fTuple h
  · exact .kTuple l c
theorem k_isi_tt {p : Addr} {xs : List V} (h : SqT K H p xs) (q : Q (.bl true) H) : rIsi K [.ref p, .ty "tuple"] H Q := ⟨.ref p, .ty "tuple", .type "tuple", .type "tuple", true, rfl, .ty _, tyx_t h, kit_ty (by decide +kernel), q⟩
/-! ### the rules that speak of the written part, by its own letter -/
section
variable {X : Cx} (K : PySem.W.Frag) (hK : X.K = K := by rfl)
include hK
theorem kb_ix : IxR X (rIx K) := hK ▸ ix_seq
theorem kb_eq (hu : X.A.units + 64 < cLine) : OpR X (compareOp .Eq) (rEqA K) := hK ▸ op_eqA hu
theorem kb_ne (hu : X.A.units + 64 < cLine) : OpR X (compareOp .NotEq) (rNeA K) := hK ▸ op_neA hu
theorem kb_in : OpR X (compareOp .In) (rIn K false) := hK ▸ op_in_seq
theorem kb_notIn : OpR X (compareOp .NotIn) (rIn K true) := hK ▸ op_notIn_seq
theorem kb_len : CallR X (.builtin "len") (rLen K) := hK ▸ cb_len
theorem kb_isi : CallR X (.builtin "isinstance") (rIsi K) := hK ▸ call_isi
theorem kb_sum (hc : X.calm = true) : CallR X (.builtin "sum") (rSum K) := hK ▸ cr_sum hc
theorem kb_max (hc : X.calm = true) : CallR X (.builtin "max") (rMax K) := hK ▸ cr_max hc
theorem kb_min (hc : X.calm = true) : CallR X (.builtin "min") (rMin K) := hK ▸ cr_min hc
theorem kb_all (hc : X.calm = true) : CallR X (.builtin "all") (rAll K) := hK ▸ cr_all hc
theorem kb_any (hc : X.calm = true) : CallR X (.builtin "any") (rAny K) := hK ▸ cr_any hc
end
/-- // by any divisor but 0, below 2 ^ 9000 -/
def CDivX (_ j : Int) : Prop := j ≠ 0 ∧ j.natAbs.log2 < 9000
theorem op_fdivX {X : Cx} : OpR X (binaryOp .FloorDiv) (rI CDivX fun i j => .int (i.fdiv j)) := opI fun i j _ _ _ _ _ hc q => floordiv_int hc.1 q (.inl (PyProof.noPylong_of_log2 hc.2))
/-- a power of written numbers -/
theorem pe_powc {X : Cx} {b e n : Int} {j1 j2 : Nat} {p1 p2 pos : Pos} (h : (0 ≤ e ∧ e ≤ 1000000 ∧ b.natAbs < 2 ^ 64) ∧ b ^ e.toNat = n) : PE X (.BinOp (.Constant (.int b) j1 p1) .Pow (.Constant (.int e) j2 p2) pos) (tC (.int n)) :=
  ⟨fun pins s σ H Q I q => (pe_op (X := X) op_pow pe_int pe_int).run pins s σ H Q I ⟨b, e, rfl, rfl, h.1, by show Q (.int (b ^ e.toNat)) H; rw [h.2]; exact q⟩⟩
end
/-! ### sizes -/
structure Sm (n : Nat) (i : Int) : Prop where
  h : i.natAbs < 2 ^ n
theorem sm_lit {i : Int} (h : i.natAbs < 2 ^ 400) : Sm 400 i := ⟨h⟩
theorem sm_mono {a b : Nat} {i : Int} (h : Sm a i) (hab : a ≤ b) : Sm b i := ⟨Nat.lt_of_lt_of_le h.h (Nat.pow_le_pow_right (by decide) hab)⟩
theorem sm41 {i : Int} (h1 : -1000000000000000000000000000000000000000000000000000000000000 ≤ i) (h2 : i ≤ 1000000000000000000000000000000000000000000000000000000000000) : Sm 200 i := by
  have e : (2 : Nat) ^ 200 = 1606938044258990275541962092341162602522202993782792835301376 := by decide
  refine ⟨?_⟩
  rw [e]; omega
theorem mul_bd {x k X Y : Int} (h1 : 1 ≤ x) (h2 : x ≤ X) (h3 : 1 ≤ k) (h4 : k ≤ Y) : 1 ≤ x * k ∧ x * k ≤ X * Y := by
  refine ⟨Int.mul_pos (by omega) (by omega), ?_⟩
  exact Int.mul_le_mul h2 h4 (by omega) (by omega)
theorem mul_bd2 {x k X Y : Int} (h1 : -X ≤ x) (h2 : x ≤ X) (h3 : -Y ≤ k) (h4 : k ≤ Y) : -(X * Y) ≤ x * k ∧ x * k ≤ X * Y := by
  have e : (x * k).natAbs ≤ X.natAbs * Y.natAbs := by rw [Int.natAbs_mul]; exact Nat.mul_le_mul (by omega) (by omega)
  have e2 : ((X.natAbs * Y.natAbs : Nat) : Int) = X * Y := by
    rw [Int.natCast_mul, show ((X.natAbs : Nat) : Int) = X by omega, show ((Y.natAbs : Nat) : Int) = Y by omega]
  omega
theorem sm_mul {i j : Int} {a b : Nat} (ha : Sm a i) (hb : Sm b j) : Sm (a + b) (i * j) := ⟨wide_lt ha.h hb.h⟩
theorem sm_bits {i : Int} {n : Nat} (h : Builtin.Int.intBits i ≤ n) : Sm n i := by
  unfold Builtin.Int.intBits at h
  split at h
  · rename_i z
    have : i = 0 := by simpa using z
    subst this
    exact ⟨Nat.pow_pos (by decide)⟩
  · rename_i z
    have hz : i.natAbs ≠ 0 := by
      intro q
      apply z
      have : i = 0 := by omega
      subst this
      decide
    exact ⟨Nat.lt_of_lt_of_le ((Nat.log2_lt hz).mp (Nat.lt_succ_self _)) (Nat.pow_le_pow_right (by decide) h)⟩
theorem sm_mulx {i j : Int} {a b : Nat} (ha : Sm a i) (hb : Sm b j) (h : a + b ≤ 134217728) : CMulX i j := mulx_ok ha.h hb.h h
theorem modbd {y n B : Int} (hn : 1 ≤ n) (h : n ≤ B) : 0 ≤ y % n ∧ y % n ≤ B := ⟨Int.emod_nonneg _ (by omega), by have := Int.emod_lt_of_pos y (show 0 < n by omega); omega⟩
theorem sm_divx {i j : Int} {b : Nat} (h : j ≠ 0) (hb : Sm b j) (h0 : 0 < b) (h9 : b ≤ 9000) : CDivX i j := ⟨h, Nat.lt_of_lt_of_le (PySem.Flt.log2_lt_of h0 hb.h) h9⟩
theorem sm_div {i j : Int} {b : Nat} (h : 0 < j) (hb : Sm b j) (h0 : 0 < b) (h9 : b ≤ 9000) : CDivW i j := wide_div h hb.h h0 h9
/-! ### range of great numbers -/
theorem turn_rangeL {P : Program} {w : World} {K : PySem.W.Frag} {tg : Expr} (it : Addr) (lo c : Int) (n : Nat) : Turn P w K tg (Itc lo c n) [it] it (fun i h => PySem.IsLongIter h it (lo + (i : Nat) * c) ((n : Int) - (i : Nat)) c) where
  mem := by simp
  obj := fun i h st b hb => by
    have e : b = it := by simpa using hb
    subst e
    exact ⟨_, st, fun v z => nomatch z⟩
  keep := fun i h h' st k => k it (by simp) _ st
  item := by
    intro X hP hw hK hc i pins s σ H E I hf st hg
    subst hP hw hK
    obtain ⟨f0, f1, f2, f3, f4, f5⟩ := hf it (by simp)
    have W := Walks.longrange (prog := X.prog) (w := X.w) (I.ok.hd hc) it lo c n
    refine W.item i s _ _ hg st fun v h' tk hv st' kk => ?_
    obtain ⟨t, rfl⟩ := hv
    have I1 : Inv X pins σ H { s with heap := h', toks := tk } := I.turned (fun b o hb e => kk b o (by simpa using hb) e) f0 f1 f3 f4 f5
    exact ⟨_, rfl, go_of (s := { s with heap := h', toks := tk }) (n := "longrange_iterator") st' rfl rfl (by decide) ⟨.int (lo + (i : Nat) * c), H, I1, ⟨t, rfl⟩, ⟨rfl, rfl⟩, st', fun b hb => (hf b hb).1⟩⟩
  done := by
    intro X hP hw hK hc i pins s σ H E I hf st hg
    subst hP hw hK
    obtain ⟨f0, f1, f2, f3, f4, f5⟩ := hf it (by simp)
    exact PySem.wpAny_pyNext_long_end (I.ok.hd hc) st (by have : n ≤ i := hg; omega) fun h' eb => ⟨rfl, I.turned (t' := s.toks) (fun b o hb e => eb b o hb e) f0 f1 f3 f4 f5⟩
  self := fun A i s Q E st h => PySem.wpAny_pyIter_longiter st h
theorem itc_one (lo : Int) (n : Nat) : Itc lo 1 n = Itr lo n := by
  unfold Itc Itr
  simp only [Int.mul_one]
def Rng2L (vs : List V) (H : Hp) (R : It → Hp → Prop) : Prop := ∃ i j : Int, vs = [.int i, .int j] ∧ R (Itr i (j - i).toNat) H
def iRng2L (ta : TA) : TI := fun σ H R => ta σ H fun vs H1 => Rng2L vs H1 R
theorem pi_range2L {X : Cx} {tg : Expr} {a b : Expr} {ta : TA} {p pos : Pos} (hg : Gl X "range") (hm : X.mg "range" = none) (ha : PA X [a, b] ta) (hs : starEach [a, b] X.env = [(false, eval a X.env), (false, eval b X.env)] := by rfl) (hs2 : starEach [b] X.env = [(false, eval b X.env)] := by rfl) :
    PI X tg (.Call (.Name "range" p) [a, b] [] pos) (iRng2L ta) := by
  refine ⟨fun pins s σ H R I h => ?_⟩
  refine Call_ (ld_blt I hg hm boot_range (PyProof.Rows.callWith_type1 (thn (ha.run pos pins s σ H _ I h) fun us s1 ⟨vs, H1, I1, r1, q1⟩ => ?_) (by rw [hs, hs2]) (by rw [hs2]; rfl)))
  obtain ⟨i, j, e, q⟩ := q1
  subst e
  cases r1 with
  | cons r rr =>
    cases rr with
    | cons r' rr =>
      cases rr
      obtain ⟨t, rfl⟩ := r
      obtain ⟨t', rfl⟩ := r'
      refine PySem.call_range_2 ?_
      have I2 : Inv X pins σ H1 { s1 with heap := s1.heap.push { cls := .type "range", data := .fields #[.int i t, .int j t', .int 1 s1.toks] }, toks := s1.toks + 1 } := I1.kept (t' := s1.toks + 1) fun b o e => Heap.get?_push_of_some _ e
      have e1 : i + ((0 : Nat) : Int) * 1 = i := by simp
      have e2 : (((j - i).toNat : Nat) : Int) - ((0 : Nat) : Int) = Builtin.Range.rangeSize i j 1 := by rw [PyProof.Rows.rangeSize_nat]; simp
      rw [← itc_one] at q
      cases hsm : Builtin.Range.small i j 1 with
      | true =>
        refine wpAny_pyIter_range (IsRange.new ..) hsm ?_
        refine pi_one (tk := s1.toks + 1) I2 _ (turn_rangeC _ i 1 (j - i).toNat) ?_ q
        show IsRangeIter _ _ (i + ((0 : Nat) : Int) * 1) ((((j - i).toNat : Nat) : Int) - ((0 : Nat) : Int)) 1
        rw [e1, e2]
        exact Heap.get?_push_size _ rfl
      | false =>
        refine wpAny_pyIter_longrange (IsRange.new ..) hsm ?_
        refine pi_one (tk := s1.toks + 1) I2 _ (turn_rangeL _ i 1 (j - i).toNat) ?_ q
        show IsLongIter _ _ (i + ((0 : Nat) : Int) * 1) ((((j - i).toNat : Nat) : Int) - ((0 : Nat) : Int)) 1
        rw [e1, e2]
        exact Heap.get?_push_size _ rfl
section
variable {σ : L2.St} {H : Hp} {tr : TA} {m n : Int}
theorem k_irng2L {R : It → Hp → Prop} (h : tr σ H fun vs H1 => Rng2L vs H1 R) : iRng2L tr σ H R := h
theorem k_rng2L {R : It → Hp → Prop} (h : R (Itr m (n - m).toNat) H) : Rng2L [V.int m, V.int n] H R := ⟨m, n, rfl, h⟩
end
theorem b_dec {b : Bool} {p : Prop} [Decidable p] (h : b = true ↔ p) : b = decide p := by
  by_cases hp : p
  · rw [decide_eq_true hp]; exact h.mpr hp
  · rw [decide_eq_false hp]
    cases hb : b with
    | false => rfl
    | true => exact absurd (h.mp hb) hp
/-- a test that something differs, where it does not -/
theorem if_same {p A B : Prop} [Decidable p] (h : p) (h2 : B) : if (!decide p) = true then A else B := if_ndec (fun hn => absurd h hn) (fun _ => h2)
theorem inV3 {a x y z : Int} : inV (.int a) [.int x, .int y, .int z] = decide (a = x ∨ a = y ∨ a = z) := by
  have h := inV_ints (a := a) [x, y, z]
  have e : (decide (a ∈ [x, y, z])) = decide (a = x ∨ a = y ∨ a = z) := by
    have : a ∈ [x, y, z] ↔ (a = x ∨ a = y ∨ a = z) := by simp
    simp [this]
  exact h.trans e
theorem k_in3 {K : PySem.W.Frag} {H : Hp} {Q : VK} {a : Int} {p : Addr} {x y z : Int} (h : SqL K H p [.int x, .int y, .int z]) (q : Q (.bl (decide (a = x ∨ a = y ∨ a = z))) H) : rIn K false (.int a) (.ref p) H Q :=
  ⟨p, _, rfl, .inl h, rfl, rfl, by rw [inV3]; exact q⟩
/-! ### words that are known -/
theorem if_seq {a b : Str} {A B : Prop} (h : a = b) (x : A) : if decide (a = b) = true then A else B := if_dec (fun _ => x) (fun hn => absurd h hn)
theorem if_sne {a b : Str} {A B : Prop} (h : ¬ a = b) (x : B) : if decide (a = b) = true then A else B := if_dec (fun he => absurd he h) (fun _ => x)
theorem if_nseq {a b : Str} {A B : Prop} (h : a = b) (x : B) : if (!decide (a = b)) = true then A else B := if_ndec (fun hn => absurd h hn) (fun _ => x)
theorem if_nsne {a b : Str} {A B : Prop} (h : ¬ a = b) (x : A) : if (!decide (a = b)) = true then A else B := if_ndec (fun _ => x) (fun he => absurd he h)

/-! ### remainders: the mathematics -/
theorem gcd_abs (a b : Int) : Int.gcd (if a < 0 then -a else a) (if b < 0 then -b else b) = Int.gcd a b := by
  split <;> split <;> simp
theorem abs_nn (a : Int) : 0 ≤ (if a < 0 then -a else a) := by split <;> omega
theorem abs_le {a b : Int} (h1 : -b ≤ a) (h2 : a ≤ b) : (if a < 0 then -a else a) ≤ b := by split <;> omega
theorem gcd_mod (x y : Int) : Int.gcd y (x % y) = Int.gcd x y := by
  have e : x % y = x - y * (x / y) := Int.emod_def x y
  rw [e, Int.gcd_comm, Int.mul_comm, Int.gcd_sub_mul_right_left]
theorem gcd_zero (x : Int) (h : 0 ≤ x) : ((Int.gcd x 0 : Nat) : Int) = x := by
  rw [Int.gcd_zero_right]; omega
/-- the least common multiple of two numbers from 1 on, as the program reckons it -/
def lcmI (a b : Int) : Int := a / (Int.gcd a b : Nat) * b
theorem gcd_pos {a b : Int} (ha : 1 ≤ a) : 1 ≤ ((Int.gcd a b : Nat) : Int) := by
  have : Int.gcd a b ≠ 0 := fun h => by
    have := Int.gcd_eq_zero_iff.mp h
    omega
  omega
theorem gcd_le {a b : Int} (ha : 1 ≤ a) : ((Int.gcd a b : Nat) : Int) ≤ a := Int.le_of_dvd (by omega) (Int.gcd_dvd_left a b)
theorem gcd_le' {a b : Int} (hb : 1 ≤ b) : ((Int.gcd a b : Nat) : Int) ≤ b := Int.le_of_dvd (by omega) (Int.gcd_dvd_right a b)
theorem lcm_mul_gcd {a b : Int} (ha : 1 ≤ a) : lcmI a b * (Int.gcd a b : Nat) = a * b := by
  have h := Int.ediv_mul_cancel (Int.gcd_dvd_left a b)
  unfold lcmI
  rw [Int.mul_assoc, Int.mul_comm b, ← Int.mul_assoc, h]
theorem lcm_pos {a b : Int} (ha : 1 ≤ a) (hb : 1 ≤ b) : 1 ≤ lcmI a b := by
  have h := lcm_mul_gcd (b := b) ha
  have h1 := gcd_pos (b := b) ha
  have h2 : 0 < a * b := Int.mul_pos (by omega) (by omega)
  rw [← h] at h2
  have := Int.pos_of_mul_pos_left h2 (by omega)
  omega
theorem dvd_lcm_right (a b : Int) : b ∣ lcmI a b := ⟨_, Int.mul_comm _ _⟩
theorem dvd_lcm_left {a b : Int} (ha : 1 ≤ a) : a ∣ lcmI a b := by
  obtain ⟨k, hk⟩ := Int.gcd_dvd_right a b
  have h := lcm_mul_gcd (b := b) ha
  have h1 := gcd_pos (b := b) ha
  refine ⟨k, ?_⟩
  have e : lcmI a b * (Int.gcd a b : Nat) = a * k * (Int.gcd a b : Nat) := by
    rw [h, Int.mul_assoc, Int.mul_comm k, ← hk]
  exact Int.eq_of_mul_eq_mul_right (by omega) e
theorem lcm_comm {a b : Int} (ha : 1 ≤ a) (hb : 1 ≤ b) : lcmI a b = lcmI b a := by
  have h := lcm_mul_gcd (b := b) ha
  have h' := lcm_mul_gcd (b := a) hb
  have h1 := gcd_pos (b := b) ha
  rw [Int.gcd_comm b a, Int.mul_comm b a, ← h] at h'
  exact (Int.eq_of_mul_eq_mul_right (by omega) h').symm
theorem bezout_dvd {a b u v g x : Int} (e : u * a + v * b = g) (ha : x ∣ a) (hb : x ∣ b) : x ∣ g := by
  rw [← e]; exact Int.dvd_add (Int.dvd_mul_of_dvd_right ha) (Int.dvd_mul_of_dvd_right hb)
theorem lcm_least {a b x : Int} (ha : 1 ≤ a) (hb : 1 ≤ b) (h1 : a ∣ x) (h2 : b ∣ x) : lcmI a b ∣ x := by
  -- a * b divides x * gcd
  have hg := gcd_pos (b := b) ha
  have h := lcm_mul_gcd (b := b) ha
  have hd : a * b ∣ x * (Int.gcd a b : Nat) := by
    have e : x * ((Int.gcd a b : Nat) : Int) = ((Int.gcd (x * a) (x * b) : Nat) : Int) ∨ x * ((Int.gcd a b : Nat) : Int) = -((Int.gcd (x * a) (x * b) : Nat) : Int) := by
      rw [Int.gcd_mul_left, Int.natCast_mul]
      rcases Int.natAbs_eq x with hx | hx
      · left; rw [← hx]
      · right
        have : ((x.natAbs : Nat) : Int) = -x := by omega
        rw [this, Int.neg_mul, Int.neg_neg]
    have d1 : a * b ∣ x * a := by rw [Int.mul_comm x a]; exact Int.mul_dvd_mul (Int.dvd_refl a) h2
    have d2 : a * b ∣ x * b := by exact Int.mul_dvd_mul h1 (Int.dvd_refl b)
    have d3 := Int.dvd_coe_gcd d1 d2
    rcases e with e | e
    · rw [e]; exact d3
    · rw [e]; exact Int.dvd_neg.mpr d3
  rw [← h] at hd
  exact Int.dvd_of_mul_dvd_mul_right (by omega) hd
theorem lcm_le_mul {a b : Int} (ha : 1 ≤ a) (hb : 1 ≤ b) : lcmI a b ≤ a * b := by
  have h := lcm_mul_gcd (b := b) ha
  have hg := gcd_pos (b := b) ha
  have hl := lcm_pos ha hb
  have := Int.mul_le_mul_of_nonneg_left hg (show (0 : Int) ≤ lcmI a b by omega)
  omega
/-! ### the equation: one step, and how great its numbers grow -/
theorem eq_rest {r1 r2 : Int} (h : r2 ≠ 0) : (0 < r2 → 0 ≤ r1 - r1.fdiv r2 * r2 ∧ r1 - r1.fdiv r2 * r2 < r2) ∧ (r2 < 0 → r2 < r1 - r1.fdiv r2 * r2 ∧ r1 - r1.fdiv r2 * r2 ≤ 0) := by
  constructor
  · intro h0
    rw [Int.fdiv_eq_ediv_of_nonneg _ (by omega)]
    have e := Int.emod_def r1 r2
    rw [Int.mul_comm] at e
    rw [← e]
    exact ⟨Int.emod_nonneg _ h, Int.emod_lt_of_pos _ h0⟩
  · intro h0
    have e1 : r1.fdiv r2 = (-r1) / (-r2) := by
      rw [← Int.fdiv_eq_ediv_of_nonneg (-r1) (show 0 ≤ -r2 by omega), Int.neg_fdiv_neg]
    have e := Int.emod_def (-r1) (-r2)
    have p1 := Int.emod_nonneg (-r1) (show -r2 ≠ 0 by omega)
    have p2 := Int.emod_lt_of_pos (-r1) (show 0 < -r2 by omega)
    rw [e1]
    have : r1 - (-r1) / (-r2) * r2 = -((-r1) % (-r2)) := by
      rw [e, Int.neg_mul, Int.mul_comm r2]; omega
    rw [this]
    omega
theorem gcd_rest (r1 r2 q : Int) : Int.gcd r2 (r1 - q * r2) = Int.gcd r1 r2 := by
  rw [Int.gcd_comm, Int.gcd_sub_mul_right_left]
/-- the sum of both rests times the quotient is no more than four times the sum ahead -/
theorem eq_quot {r1 r2 : Int} (h : r2 ≠ 0) : (r1.fdiv r2).natAbs * r2.natAbs ≤ r1.natAbs + r2.natAbs := by
  have hr := eq_rest (r1 := r1) h
  rw [← Int.natAbs_mul]
  generalize r1.fdiv r2 * r2 = z at *
  rcases Int.lt_or_gt_of_ne h with h0 | h0
  · have := hr.2 h0; omega
  · have := hr.1 h0; omega
/-- numbers so far are at most M, M times the cube of the rests' sum at most B: it stays so -/
theorem eq_grow {r1 r2 : Int} {M B : Nat} (h : r2 ≠ 0) (hs : (0 < r1 ∧ 0 < r2) ∨ (r1 < 0 ∧ r2 < 0)) (hlt : r2.natAbs < r1.natAbs)
    (hB : M * (r1.natAbs + r2.natAbs) ^ 3 ≤ B) : (M * (1 + (r1.fdiv r2).natAbs)) * (r2.natAbs + (r1 - r1.fdiv r2 * r2).natAbs) ^ 3 ≤ B := by
  have hr := eq_rest (r1 := r1) h
  have key : (r1.fdiv r2).natAbs * r2.natAbs + (r1 - r1.fdiv r2 * r2).natAbs = r1.natAbs ∧ 1 ≤ (r1.fdiv r2).natAbs := by
    have e := Int.natAbs_mul (r1.fdiv r2) r2
    rw [← e]
    have q1 : r1.fdiv r2 ≠ 0 := by
      intro z
      rw [z, Int.zero_mul] at hr
      omega
    refine ⟨?_, by omega⟩
    have hq : 0 ≤ r1.fdiv r2 * r2 ∧ 0 < r2 ∨ r1.fdiv r2 * r2 ≤ 0 ∧ r2 < 0 := by
      rcases hs with hs | hs
      · left; refine ⟨?_, hs.2⟩
        have := hr.1 hs.2
        rw [Int.fdiv_eq_ediv_of_nonneg _ (by omega)]
        exact Int.mul_nonneg (Int.ediv_nonneg (by omega) (by omega)) (by omega)
      · right; refine ⟨?_, hs.2⟩
        have e1 : r1.fdiv r2 = (-r1) / (-r2) := by
          rw [← Int.fdiv_eq_ediv_of_nonneg (-r1) (show 0 ≤ -r2 by omega), Int.neg_fdiv_neg]
        rw [e1]
        exact Int.mul_nonpos_of_nonneg_of_nonpos (Int.ediv_nonneg (by omega) (by omega)) (by omega)
    generalize r1.fdiv r2 * r2 = z at *
    rcases hs with hs | hs
    · have := hr.1 hs.2; omega
    · have := hr.2 hs.2; omega
  have h3 : (r1 - r1.fdiv r2 * r2).natAbs < r2.natAbs := by
    generalize r1.fdiv r2 * r2 = z at *
    rcases hs with hs | hs
    · have := hr.1 hs.2; omega
    · have := hr.2 hs.2; omega
  generalize (r1 - r1.fdiv r2 * r2).natAbs = c at *
  generalize (r1.fdiv r2).natAbs = q at *
  generalize r2.natAbs = b at *
  generalize r1.natAbs = a at *
  obtain ⟨k1, k2⟩ := key
  -- S = a + b, S' = b + c; S' (1 + q) ≤ 2 S ; 3 S' ≤ 2 S
  have t1 : (b + c) * (1 + q) ≤ 2 * (a + b) := by
    have : (b + c) * (1 + q) ≤ (2 * b) * (1 + q) := Nat.mul_le_mul_right _ (by omega)
    have e : (2 * b) * (1 + q) = 2 * b + 2 * (q * b) := by rw [Nat.mul_add, Nat.mul_one, Nat.mul_assoc, Nat.mul_comm b q]
    omega
  have t2 : 3 * (b + c) ≤ 2 * (a + b) := by
    have : b ≤ q * b := Nat.le_mul_of_pos_left _ k2
    omega
  have t3 : (3 * (b + c)) * (3 * (b + c)) ≤ (2 * (a + b)) * (2 * (a + b)) := Nat.mul_le_mul t2 t2
  generalize a + b = S at *
  generalize b + c = S' at *
  have t4 : (M * (1 + q) * S') ≤ M * (2 * S) := by
    rw [Nat.mul_assoc, Nat.mul_comm (1 + q)]; exact Nat.mul_le_mul_left _ t1
  have t5 : (M * (1 + q) * S') * ((3 * S') * (3 * S')) ≤ (M * (2 * S)) * ((2 * S) * (2 * S)) := Nat.mul_le_mul t4 t3
  have e1 : (M * (1 + q) * S') * ((3 * S') * (3 * S')) = 9 * (M * (1 + q) * S' ^ 3) := by
    simp only [Nat.pow_succ, Nat.pow_zero, Nat.one_mul]; simp only [Nat.mul_assoc, Nat.mul_comm, Nat.mul_left_comm]
  have e2 : (M * (2 * S)) * ((2 * S) * (2 * S)) = 8 * (M * S ^ 3) := by
    simp only [Nat.pow_succ, Nat.pow_zero, Nat.one_mul]; simp only [Nat.mul_assoc, Nat.mul_comm, Nat.mul_left_comm]
  rw [e1, e2] at t5
  omega
/-- between two turns of the equation, behind the first one -/
structure Later (B : Nat) (u1 v1 r1 u2 v2 r2 : Int) : Prop where
  sg : (0 < r1 ∧ 0 < r2) ∨ (r1 < 0 ∧ r2 < 0) ∨ (r2 = 0 ∧ r1 ≠ 0)
  lt : r2.natAbs < r1.natAbs
  bd : ∃ M : Nat, u1.natAbs ≤ M ∧ v1.natAbs ≤ M ∧ u2.natAbs ≤ M ∧ v2.natAbs ≤ M ∧ M * (r1.natAbs + r2.natAbs) ^ 3 ≤ B
theorem Later.le {B : Nat} {u1 v1 r1 u2 v2 r2 : Int} (h : Later B u1 v1 r1 u2 v2 r2) : u1.natAbs ≤ B ∧ v1.natAbs ≤ B ∧ u2.natAbs ≤ B ∧ v2.natAbs ≤ B := by
  obtain ⟨M, a1, a2, a3, a4, hM⟩ := h.bd
  have hp : 0 < (r1.natAbs + r2.natAbs) ^ 3 := Nat.pow_pos (by have := h.lt; omega)
  have : M ≤ B := Nat.le_trans (Nat.le_mul_of_pos_right M hp) hM
  omega
theorem mul_sub_abs {u1 u2 q : Int} {M : Nat} (h1 : u1.natAbs ≤ M) (h2 : u2.natAbs ≤ M) : (u1 - q * u2).natAbs ≤ M * (1 + q.natAbs) := by
  have e : (q * u2).natAbs ≤ M * q.natAbs := by rw [Int.natAbs_mul, Nat.mul_comm]; exact Nat.mul_le_mul_right _ h2
  rw [Nat.mul_add, Nat.mul_one]
  omega
theorem Later.step {B : Nat} {u1 v1 r1 u2 v2 r2 : Int} (h : Later B u1 v1 r1 u2 v2 r2) (h0 : r2 ≠ 0) :
    Later B u2 v2 r2 (u1 - r1.fdiv r2 * u2) (v1 - r1.fdiv r2 * v2) (r1 - r1.fdiv r2 * r2) := by
  obtain ⟨M, a1, a2, a3, a4, hM⟩ := h.bd
  have hs : (0 < r1 ∧ 0 < r2) ∨ (r1 < 0 ∧ r2 < 0) := by have := h.sg; omega
  have hr := eq_rest (r1 := r1) h0
  refine ⟨?_, ?_, ⟨M * (1 + (r1.fdiv r2).natAbs), ?_, ?_, mul_sub_abs a1 a3, mul_sub_abs a2 a4, eq_grow h0 hs h.lt hM⟩⟩
  · generalize r1 - r1.fdiv r2 * r2 = z at *
    rcases hs with hs | hs
    · have := hr.1 hs.2; omega
    · have := hr.2 hs.2; omega
  · generalize r1 - r1.fdiv r2 * r2 = z at *
    rcases hs with hs | hs
    · have := hr.1 hs.2; omega
    · have := hr.2 hs.2; omega
  · exact Nat.le_trans a3 (Nat.le_mul_of_pos_right M (by omega))
  · exact Nat.le_trans a4 (Nat.le_mul_of_pos_right M (by omega))
theorem Later.first {a b : Int} {n : Nat} (ha : a.natAbs ≤ 2 ^ n) (hb : b.natAbs ≤ 2 ^ n) (h0 : b ≠ 0) :
    Later (2 ^ (4 * n + 6)) 0 1 b (1 - a.fdiv b * 0) (0 - a.fdiv b * 1) (a - a.fdiv b * b) := by
  have hr := eq_rest (r1 := a) h0
  have hq := eq_quot (r1 := a) h0
  have h1 : (a.fdiv b).natAbs ≤ 2 ^ n + 2 ^ n := by
    have : (a.fdiv b).natAbs * 1 ≤ (a.fdiv b).natAbs * b.natAbs := Nat.mul_le_mul_left _ (by omega)
    omega
  refine ⟨?_, ?_, ⟨1 + (a.fdiv b).natAbs, by omega, by omega, ?_, ?_, ?_⟩⟩
  · generalize a - a.fdiv b * b = z at *
    rcases Int.lt_or_gt_of_ne h0 with h | h
    · have := hr.2 h; omega
    · have := hr.1 h; omega
  · generalize a - a.fdiv b * b = z at *
    rcases Int.lt_or_gt_of_ne h0 with h | h
    · have := hr.2 h; omega
    · have := hr.1 h; omega
  · rw [Int.mul_zero]; omega
  · rw [Int.mul_one]; omega
  · have h2 : b.natAbs + (a - a.fdiv b * b).natAbs ≤ 2 * 2 ^ n := by
      generalize a - a.fdiv b * b = z at *
      rcases Int.lt_or_gt_of_ne h0 with h | h
      · have := hr.2 h; omega
      · have := hr.1 h; omega
    have hp : 1 ≤ 2 ^ n := Nat.pow_pos (by decide)
    have h3 : 1 + (a.fdiv b).natAbs ≤ 2 ^ (n + 2) := by rw [Nat.pow_add]; omega
    have h4 : (b.natAbs + (a - a.fdiv b * b).natAbs) ^ 3 ≤ (2 ^ (n + 1)) ^ 3 := Nat.pow_le_pow_left (by rw [Nat.pow_add]; omega) 3
    have h5 := Nat.mul_le_mul h3 h4
    rw [← Nat.pow_mul, ← Nat.pow_add] at h5
    exact Nat.le_trans h5 (Nat.pow_le_pow_right (by decide) (by omega))
theorem fdiv_abs_le {r1 r2 : Int} (h : r2 ≠ 0) : (r1.fdiv r2).natAbs ≤ r1.natAbs + r2.natAbs := by
  have hq := eq_quot (r1 := r1) h
  have : (r1.fdiv r2).natAbs * 1 ≤ (r1.fdiv r2).natAbs * r2.natAbs := Nat.mul_le_mul_left _ (by omega)
  omega
theorem rest_lt {r1 r2 : Int} (h : r2 ≠ 0) : (r1 - r1.fdiv r2 * r2).natAbs < r2.natAbs := by
  have hr := eq_rest (r1 := r1) h
  generalize r1 - r1.fdiv r2 * r2 = z at *
  rcases Int.lt_or_gt_of_ne h with h | h
  · have := hr.2 h; omega
  · have := hr.1 h; omega
theorem bez_step {a b u1 v1 r1 u2 v2 r2 q : Int} (h1 : u1 * a + v1 * b = r1) (h2 : u2 * a + v2 * b = r2) : (u1 - q * u2) * a + (v1 - q * v2) * b = r1 - q * r2 := by
  rw [← h1, ← h2, Int.sub_mul, Int.sub_mul, Int.mul_add, Int.mul_assoc, Int.mul_assoc]
  omega
theorem met_ok {n m r s u v : Int} (hn : 1 ≤ n) (hm : 1 ≤ m) (hb : u * n + v * m = (Int.gcd n m : Nat)) (hd : (s - r) % (Int.gcd n m : Nat) = 0) :
    n ∣ (r + n * u * ((s - r) / (Int.gcd n m : Nat))) % lcmI n m - r ∧ m ∣ (r + n * u * ((s - r) / (Int.gcd n m : Nat))) % lcmI n m - s := by
  have hg := gcd_pos (b := m) hn
  have hk : (Int.gcd n m : Nat) * ((s - r) / (Int.gcd n m : Nat)) = s - r := by
    have := Int.emod_add_mul_ediv (s - r) (Int.gcd n m : Nat)
    omega
  generalize ((Int.gcd n m : Nat) : Int) = g at *
  generalize (s - r) / g = k at *
  have hL1 := dvd_lcm_left (b := m) hn
  have hL2 := dvd_lcm_right n m
  have e := Int.emod_def (r + n * u * k) (lcmI n m)
  rw [e]
  generalize (r + n * u * k) / lcmI n m = z
  constructor
  · have : r + n * u * k - lcmI n m * z - r = n * (u * k) - lcmI n m * z := by rw [Int.mul_assoc]; omega
    rw [this]
    exact Int.dvd_sub (Int.dvd_mul_right _ _) (Int.dvd_mul_of_dvd_left hL1)
  · have h2 : n * u * k = g * k - m * (v * k) := by
      have : n * u = g - m * v := by rw [← hb, Int.mul_comm u n, Int.mul_comm v m]; omega
      rw [this, Int.sub_mul, Int.mul_assoc]
    have : r + n * u * k - lcmI n m * z - s = -(m * (v * k)) - lcmI n m * z := by omega
    rw [this]
    exact Int.dvd_sub (Int.dvd_neg.mpr (Int.dvd_mul_right _ _)) (Int.dvd_mul_of_dvd_left hL2)
theorem alike_both {n m r s x d : Int} (hn : 1 ≤ n) (hm : 1 ≤ m) (h1 : n ∣ x - r) (h2 : m ∣ x - s) : ((d - r) % n = 0 ∧ (d - s) % m = 0) ↔ (d - x) % lcmI n m = 0 := by
  constructor
  · rintro ⟨a1, a2⟩
    have b1 := Int.dvd_of_emod_eq_zero a1
    have b2 := Int.dvd_of_emod_eq_zero a2
    refine Int.emod_eq_zero_of_dvd (lcm_least hn hm ?_ ?_)
    · have := Int.dvd_sub b1 h1; rwa [show d - r - (x - r) = d - x by omega] at this
    · have := Int.dvd_sub b2 h2; rwa [show d - s - (x - s) = d - x by omega] at this
  · intro a
    have b := Int.dvd_of_emod_eq_zero a
    refine ⟨Int.emod_eq_zero_of_dvd ?_, Int.emod_eq_zero_of_dvd ?_⟩
    · have := Int.dvd_add (Int.dvd_trans (dvd_lcm_left hn) b) h1; rwa [show d - x + (x - r) = d - r by omega] at this
    · have := Int.dvd_add (Int.dvd_trans (dvd_lcm_right n m) b) h2; rwa [show d - x + (x - s) = d - s by omega] at this

/-! ### numbers by their bits -/
def ofB (f : Nat → Bool) : Nat → Nat
  | 0 => 0
  | k + 1 => ofB f k + if f k then 2 ^ k else 0
theorem ofB_lt (f : Nat → Bool) : ∀ n, ofB f n < 2 ^ n
  | 0 => by simp [ofB]
  | k + 1 => by
    have := ofB_lt f k
    unfold ofB
    rw [Nat.pow_succ]
    split <;> omega
theorem tb_ofB (f : Nat → Bool) : ∀ n i, (ofB f n).testBit i = (decide (i < n) && f i)
  | 0, i => by simp [ofB]
  | k + 1, i => by
    have ih := tb_ofB f k
    have hl := ofB_lt f k
    unfold ofB
    by_cases hf : f k = true
    · rw [if_pos hf]
      have e : ofB f k + 2 ^ k = 2 ^ k * 1 + ofB f k := by omega
      rw [e, Nat.testBit_two_pow_mul_add _ hl]
      by_cases h : i < k
      · rw [if_pos h, ih, decide_eq_true h, decide_eq_true (show i < k + 1 by omega)]
      · rw [if_neg h]
        by_cases h2 : i = k
        · subst h2; simp [hf]
        · rw [decide_eq_false (show ¬ i < k + 1 by omega)]
          have : i - k ≠ 0 := by omega
          
          have t1 : Nat.testBit 1 (i - k) = false := by
            cases e1 : Nat.testBit 1 (i - k) with
            | false => rfl
            | true => exact absurd (Nat.testBit_one_eq_true_iff_self_eq_zero.mp e1) this
          simp [t1]
    · rw [if_neg hf, Nat.add_zero, ih]
      by_cases h2 : i = k
      · subst h2
        have hf' : f i = false := by simpa using hf
        simp [hf']
      · have : (decide (i < k)) = decide (i < k + 1) := by
          by_cases h : i < k
          · rw [decide_eq_true h, decide_eq_true (show i < k + 1 by omega)]
          · rw [decide_eq_false h, decide_eq_false (show ¬ i < k + 1 by omega)]
        rw [this]
theorem ofB_ext {f g : Nat → Bool} {n : Nat} (h : ∀ i, i < n → f i = g i) : ofB f n = ofB g n := by
  apply Nat.eq_of_testBit_eq
  intro i
  rw [tb_ofB, tb_ofB]
  by_cases hi : i < n
  · rw [h i hi]
  · rw [decide_eq_false hi]; rfl
theorem eq_ofB {x n : Nat} {f : Nat → Bool} (hx : ∀ i, x.testBit i = (decide (i < n) && f i)) : x = ofB f n := by
  apply Nat.eq_of_testBit_eq
  intro i
  rw [tb_ofB]; exact hx i
theorem ofB_self {x n : Nat} (hx : x < 2 ^ n) : ofB x.testBit n = x := by
  symm
  apply eq_ofB
  intro i
  by_cases hi : i < n
  · rw [decide_eq_true hi]; rfl
  · rw [decide_eq_false hi, Bool.false_and]
    exact Nat.testBit_lt_two_pow (Nat.lt_of_lt_of_le hx (Nat.pow_le_pow_right (by decide) (by omega)))
/-- whether a round holds on a day -/
def hold (n b : Nat) (d : Int) : Bool := b.testBit (d % (n : Int)).toNat
/-- the bits of the days of one round -/
def bitsOf (n : Nat) (f : Int → Bool) : Nat := ofB (fun i => f i) n
theorem bitsOf_lt (n : Nat) (f : Int → Bool) : bitsOf n f < 2 ^ n := ofB_lt _ _
theorem mod_lt' {n : Nat} (hn : 1 ≤ n) (d : Int) : (d % (n : Int)).toNat < n ∧ (((d % (n : Int)).toNat : Nat) : Int) = d % (n : Int) := by
  have h1 := Int.emod_nonneg d (show (n : Int) ≠ 0 by omega)
  have h2 := Int.emod_lt_of_pos d (show (0 : Int) < n by omega)
  omega
theorem hold_bitsOf {n : Nat} (hn : 1 ≤ n) (f : Int → Bool) (d : Int) : hold n (bitsOf n f) d = f (d % (n : Int)) := by
  obtain ⟨h1, h2⟩ := mod_lt' hn d
  unfold hold bitsOf
  rw [tb_ofB, decide_eq_true h1, Bool.true_and, h2]
theorem hold_per (n b : Nat) (d : Int) : hold n b (d % (n : Int)) = hold n b d := by
  unfold hold
  rw [Int.emod_emod_of_dvd _ (Int.dvd_refl _)]
theorem hold_eq {n b : Nat} {d e : Int} (h : d % (n : Int) = e % (n : Int)) : hold n b d = hold n b e := by
  unfold hold; rw [h]
theorem hold_nat {n b i : Nat} (hi : i < n) : hold n b (i : Int) = b.testBit i := by
  unfold hold
  have : ((i : Int) % (n : Int)) = i := Int.emod_eq_of_lt (by omega) (by omega)
  rw [this]; rfl
theorem bitsOf_self {n b : Nat} (hb : b < 2 ^ n) : bitsOf n (hold n b) = b := by
  unfold bitsOf
  rw [ofB_ext (g := b.testBit) (fun i hi => hold_nat hi)]
  exact ofB_self hb
theorem bitsOf_ext {n : Nat} {f g : Int → Bool} (h : ∀ i : Nat, i < n → f i = g i) : bitsOf n f = bitsOf n g := ofB_ext h
theorem eq_bitsOf {x n : Nat} {f : Int → Bool} (hx : x < 2 ^ n) (h : ∀ i : Nat, i < n → x.testBit i = f i) : x = bitsOf n f := by
  apply eq_ofB
  intro i
  by_cases hi : i < n
  · rw [decide_eq_true hi, h i hi]; rfl
  · rw [decide_eq_false hi, Bool.false_and]
    exact Nat.testBit_lt_two_pow (Nat.lt_of_lt_of_le hx (Nat.pow_le_pow_right (by decide) (by omega)))
theorem hold_mod {n : Nat} {f : Int → Bool} (hn : 1 ≤ n) (hf : ∀ d : Int, f (d % (n : Int)) = f d) (d : Int) : hold n (bitsOf n f) d = f d := by
  rw [hold_bitsOf hn, hf]
/-! ### the machine's operators on numbers from 0 on -/
theorem and_c (a b : Nat) : Builtin.bitAnd (a : Int) (b : Int) = ((a &&& b : Nat) : Int) := by
  rw [bitAnd_pp (Int.natCast_nonneg _) (Int.natCast_nonneg _), Int.toNat_natCast, Int.toNat_natCast]
theorem or_c (a b : Nat) : Builtin.bitOr (a : Int) (b : Int) = ((a ||| b : Nat) : Int) := by
  rw [bitOr_nn (Int.natCast_nonneg _) (Int.natCast_nonneg _), Int.toNat_natCast, Int.toNat_natCast]
theorem xor_c (a b : Nat) : Builtin.bitXor (a : Int) (b : Int) = ((a ^^^ b : Nat) : Int) := by
  rw [Bits.bitXor_pp (Int.natCast_nonneg _) (Int.natCast_nonneg _), Int.toNat_natCast, Int.toNat_natCast]
theorem pow_c (k : Nat) : (2 : Int) ^ k = ((2 ^ k : Nat) : Int) := (PySem.W.kbt_cast k).symm
theorem shl_c (a k : Nat) : (a : Int) * 2 ^ k = ((a * 2 ^ k : Nat) : Int) := by rw [pow_c, Int.natCast_mul]
theorem shr_c (a k : Nat) : (a : Int) / 2 ^ k = ((a / 2 ^ k : Nat) : Int) := by rw [pow_c, Int.natCast_ediv]
theorem mask_c (k : Nat) : (2 : Int) ^ k - 1 = ((2 ^ k - 1 : Nat) : Int) := by
  have := Nat.two_pow_pos k
  rw [pow_c]; omega
/-- (bits >> place) & 1 == 1 -/
theorem on_val (b : Nat) (z : Int) : decide (Builtin.bitAnd ((b : Int) / 2 ^ z.toNat) 1 = 1) = b.testBit z.toNat := by
  rw [shr_c, bitAnd_m1, Nat.testBit_eq_decide_div_mod_eq]
  congr 1
  apply propext
  omega
/-- (bits >> place) % 2 == 1 -/
theorem on_val2 (b : Nat) (z : Int) : decide ((b : Int) / 2 ^ z.toNat % 2 = 1) = b.testBit z.toNat := by
  rw [shr_c, Nat.testBit_eq_decide_div_mod_eq]
  congr 1
  apply propext
  omega
theorem and_mask (a k : Nat) : Builtin.bitAnd (a : Int) (2 ^ k - 1) = ((a % 2 ^ k : Nat) : Int) := by
  rw [mask_c, and_c, Nat.and_two_pow_sub_one_eq_mod]
theorem sm_nat {x n : Nat} (h : x < 2 ^ n) : Sm n (x : Int) := ⟨by rw [Int.natAbs_natCast]; exact h⟩
theorem sm_ofB {f : Nat → Bool} {m : Nat} (h : m ≤ 400000) : Sm 400000 ((ofB f m : Nat) : Int) := sm_mono (sm_nat (ofB_lt f m)) h
theorem sm_bitsOf {f : Int → Bool} {m : Nat} (h : m ≤ 400000) : Sm 400000 ((bitsOf m f : Nat) : Int) := sm_mono (sm_nat (bitsOf_lt m f)) h
theorem cshl {i j : Int} {n : Nat} (hi : Sm n i) (h0 : 0 ≤ j) (hj : j ≤ 100000000) (hn : n ≤ 34217728) : CShl i j := by
  obtain ⟨k, rfl⟩ := Int.eq_ofNat_of_zero_le h0
  exact shl_ok hi.h (by omega)
theorem sm_modp {x k n : Nat} (h : Sm n (x : Int)) : Sm n ((x % 2 ^ k : Nat) : Int) := by
  have h1 := h.h
  rw [Int.natAbs_natCast] at h1
  exact sm_nat (Nat.lt_of_le_of_lt (Nat.mod_le _ _) h1)
theorem sm_divp {x k n : Nat} (h : Sm n (x : Int)) : Sm n ((x / 2 ^ k : Nat) : Int) := by
  have h1 := h.h
  rw [Int.natAbs_natCast] at h1
  exact sm_nat (Nat.lt_of_le_of_lt (Nat.div_le_self _ _) h1)
theorem sm_shl {x n : Nat} {j : Int} (h : Sm n (x : Int)) (hj : j ≤ 400000) : Sm (n + 400000) ((x * 2 ^ j.toNat : Nat) : Int) := by
  have h1 := h.h
  rw [Int.natAbs_natCast] at h1
  refine sm_nat ?_
  rw [Nat.pow_add]
  exact Nat.mul_lt_mul_of_lt_of_le h1 (Nat.pow_le_pow_right (by decide) (by omega)) (Nat.two_pow_pos _)
theorem sm_or {x y n m : Nat} (h : Sm n (x : Int)) (h' : Sm m (y : Int)) : Sm (n + m) ((x ||| y : Nat) : Int) := by
  have h1 := (sm_mono h (Nat.le_add_right n m)).h
  have h2 := (sm_mono h' (Nat.le_add_left m n)).h
  rw [Int.natAbs_natCast] at h1 h2
  exact sm_nat (Nat.or_lt_two_pow h1 h2)
theorem sm_xor {x y n m : Nat} (h : Sm n (x : Int)) (h' : Sm m (y : Int)) : Sm (n + m) ((x ^^^ y : Nat) : Int) := by
  have h1 := (sm_mono h (Nat.le_add_right n m)).h
  have h2 := (sm_mono h' (Nat.le_add_left m n)).h
  rw [Int.natAbs_natCast] at h1 h2
  exact sm_nat (Nat.xor_lt_two_pow h1 h2)
theorem sm_and {x y n : Nat} (h : Sm n (x : Int)) : Sm n ((x &&& y : Nat) : Int) := by
  have h1 := h.h
  rw [Int.natAbs_natCast] at h1
  exact sm_nat (Nat.lt_of_le_of_lt Nat.and_le_left h1)
theorem sm_mask {j : Int} (hj : j ≤ 400000) : Sm 400001 ((2 : Int) ^ j.toNat - 1) := by
  rw [mask_c]
  refine sm_nat ?_
  have : 2 ^ j.toNat ≤ 2 ^ 400000 := Nat.pow_le_pow_right (by decide) (by omega)
  have h2 : (2 : Nat) ^ 400001 = 2 ^ 400000 * 2 := Nat.pow_succ ..
  have := Nat.two_pow_pos 400000
  generalize (2 : Nat) ^ 400000 = X at *
  omega
/-! ### steps: the operators on numbers from 0 on -/
section
variable {H : Hp} {Q : VK} {x y k : Nat} {j : Int}
theorem k_andm (q : Q (.int ((x % 2 ^ k : Nat) : Int)) H) : rI0 (fun i j => .int (Builtin.bitAnd i j)) (.int (x : Int)) (.int (2 ^ k - 1)) H Q := ⟨_, _, rfl, rfl, by dsimp only; rw [and_mask]; exact q⟩
theorem k_andc (q : Q (.int ((x &&& y : Nat) : Int)) H) : rI0 (fun i j => .int (Builtin.bitAnd i j)) (.int (x : Int)) (.int (y : Int)) H Q := ⟨_, _, rfl, rfl, by dsimp only; rw [and_c]; exact q⟩
theorem k_orc (q : Q (.int ((x ||| y : Nat) : Int)) H) : rI0 (fun i j => .int (Builtin.bitOr i j)) (.int (x : Int)) (.int (y : Int)) H Q := ⟨_, _, rfl, rfl, by dsimp only; rw [or_c]; exact q⟩
theorem k_xorc (q : Q (.int ((x ^^^ y : Nat) : Int)) H) : rI0 (fun i j => .int (Builtin.bitXor i j)) (.int (x : Int)) (.int (y : Int)) H Q := ⟨_, _, rfl, rfl, by dsimp only; rw [xor_c]; exact q⟩
theorem k_xorm (q : Q (.int ((x ^^^ (2 ^ k - 1) : Nat) : Int)) H) : rI0 (fun i j => .int (Builtin.bitXor i j)) (.int (x : Int)) (.int (2 ^ k - 1)) H Q := ⟨_, _, rfl, rfl, by dsimp only; rw [mask_c, xor_c]; exact q⟩
theorem k_shlc (c : CShl (x : Int) j) (q : Q (.int ((x * 2 ^ j.toNat : Nat) : Int)) H) : rI CShl (fun i j => .int (i * 2 ^ j.toNat)) (.int (x : Int)) (.int j) H Q := ⟨_, _, rfl, rfl, c, by dsimp only; rw [shl_c]; exact q⟩
theorem k_shrc (c : 0 ≤ j) (q : Q (.int ((x / 2 ^ j.toNat : Nat) : Int)) H) : rI (fun _ j => 0 ≤ j) (fun i j => .int (i / 2 ^ j.toNat)) (.int (x : Int)) (.int j) H Q := ⟨_, _, rfl, rfl, c, by dsimp only; rw [shr_c]; exact q⟩
/-- 1 << k -/
theorem k_shl1 (c : 0 ≤ j ∧ j ≤ 100000000) (q : Q (.int ((2 ^ j.toNat : Nat) : Int)) H) : rI CShl (fun i j => .int (i * 2 ^ j.toNat)) (.int 1) (.int j) H Q :=
  ⟨_, _, rfl, rfl, cshl (sm41 (by omega) (by omega)) c.1 c.2 (by decide), by dsimp only; rw [Int.one_mul, pow_c]; exact q⟩
end
/-! ### rounds -/
/-- a round at an address: its size and its bits -/
structure RT (K : PySem.W.Frag) (H : Hp) (a : Addr) (n b : Nat) : Prop where
  t : SqT K H a [.int (n : Int), .int (b : Int)]
  n1 : 1 ≤ n
  n2 : n ≤ 150000
  lt : b < 2 ^ n
theorem RT.mono {K : PySem.W.Frag} {H H' : Hp} {a : Addr} {n b : Nat} (r : RT K H a n b) (e : Same H H') : RT K H' a n b := ⟨same_t e r.t, r.n1, r.n2, r.lt⟩
theorem RT.sm {K : PySem.W.Frag} {H : Hp} {a : Addr} {n b : Nat} (r : RT K H a n b) : Sm 400000 (b : Int) := sm_mono (sm_nat r.lt) (by have := r.n2; omega)
/-! ### stretched -/
theorem str_step {g : Nat → Bool} {h k n : Nat} (hg : ∀ i, g (i % n) = g i) (hn : n ∣ h) (hk : k ≤ h) :
    (ofB g h) ||| (ofB g h % 2 ^ k * 2 ^ h) = ofB g (h + k) := by
  apply eq_ofB
  intro i
  rw [Nat.testBit_or, tb_ofB, Nat.testBit_mul_two_pow, Nat.testBit_mod_two_pow, tb_ofB]
  by_cases h1 : i < h
  · rw [decide_eq_true h1, decide_eq_false (show ¬ h ≤ i by omega), decide_eq_true (show i < h + k by omega)]
    simp
  · rw [decide_eq_false h1, decide_eq_true (show h ≤ i by omega)]
    by_cases h2 : i < h + k
    · rw [decide_eq_true h2, decide_eq_true (show i - h < k by omega), decide_eq_true (show i - h < h by omega)]
      have : g (i - h) = g i := by
        rw [← hg (i - h), ← hg i]
        obtain ⟨c, rfl⟩ := hn
        congr 1
        have e : i = (i - n * c) + n * c := by omega
        conv => rhs; rw [e]
        rw [Nat.add_mul_mod_self_left]
      simp [this]
    · rw [decide_eq_false h2, decide_eq_false (show ¬ i - h < k by omega)]
      simp
/-- the bits of a round told by a multiple of its size -/
theorem str_bits {n b m : Nat} (hn : 1 ≤ n) : ofB (fun i => b.testBit (i % n)) m = bitsOf m (hold n b) := by
  unfold bitsOf
  apply ofB_ext
  intro i _
  unfold hold
  congr 1
theorem str_start {n b : Nat} (hb : b < 2 ^ n) : b = ofB (fun i => b.testBit (i % n)) n := by
  apply eq_ofB
  intro i
  by_cases hi : i < n
  · rw [decide_eq_true hi, Nat.mod_eq_of_lt hi]; rfl
  · rw [decide_eq_false hi, Bool.false_and]
    exact Nat.testBit_lt_two_pow (Nat.lt_of_lt_of_le hb (Nat.pow_le_pow_right (by decide) (by omega)))
/-! ### the other functions over rounds -/
theorem on_valc (b : Nat) (z : Nat) : decide (Builtin.bitAnd ((b / 2 ^ z : Nat) : Int) 1 = 1) = b.testBit z := by
  rw [bitAnd_m1, Nat.testBit_eq_decide_div_mod_eq]
  congr 1
  apply propext
  omega
theorem on_valc2 (b : Nat) (z : Nat) : decide (((b / 2 ^ z : Nat) : Int) % 2 = 1) = b.testBit z := by
  rw [Nat.testBit_eq_decide_div_mod_eq]
  congr 1
  apply propext
  omega
theorem hold_dvd {n b m : Nat} (hd : n ∣ m) (d : Int) : hold n b (d % (m : Int)) = hold n b d := by
  unfold hold
  rw [Int.emod_emod_of_dvd _ (Int.natCast_dvd_natCast.mpr hd)]
theorem hold_str {n b m : Nat} (hm : 1 ≤ m) (hd : n ∣ m) (d : Int) : hold m (bitsOf m (hold n b)) d = hold n b d := hold_mod hm (fun d => hold_dvd hd d) d
theorem tb_bitsOf (n : Nat) (f : Int → Bool) (i : Nat) : (bitsOf n f).testBit i = (decide (i < n) && f i) := tb_ofB _ _ _
theorem both_bits (m : Nat) (f g : Int → Bool) : bitsOf m f &&& bitsOf m g = bitsOf m (fun d => f d && g d) := by
  apply Nat.eq_of_testBit_eq; intro i
  simp only [Nat.testBit_and, tb_bitsOf]
  cases decide (i < m) <;> simp
theorem either_bits (m : Nat) (f g : Int → Bool) : bitsOf m f ||| bitsOf m g = bitsOf m (fun d => f d || g d) := by
  apply Nat.eq_of_testBit_eq; intro i
  simp only [Nat.testBit_or, tb_bitsOf]
  cases decide (i < m) <;> simp
theorem unlike_bits (m : Nat) (f g : Int → Bool) : bitsOf m f ^^^ bitsOf m g = bitsOf m (fun d => f d != g d) := by
  apply Nat.eq_of_testBit_eq; intro i
  simp only [Nat.testBit_xor, tb_bitsOf]
  cases decide (i < m) <;> simp
theorem without_bits (m : Nat) (f g : Int → Bool) : bitsOf m f ^^^ (bitsOf m f &&& bitsOf m g) = bitsOf m (fun d => f d && !g d) := by
  apply Nat.eq_of_testBit_eq; intro i
  simp only [Nat.testBit_xor, Nat.testBit_and, tb_bitsOf]
  cases decide (i < m) <;> simp
  cases f i <;> cases g i <;> rfl
theorem other_bits {n b : Nat} (hb : b < 2 ^ n) : b ^^^ (2 ^ n - 1) = bitsOf n (fun d => !hold n b d) := by
  apply Nat.eq_of_testBit_eq; intro i
  rw [Nat.testBit_xor, Nat.testBit_two_pow_sub_one, tb_bitsOf]
  by_cases h : i < n
  · rw [decide_eq_true h, hold_nat h]; cases b.testBit i <;> rfl
  · rw [decide_eq_false h, Nat.testBit_lt_two_pow (Nat.lt_of_lt_of_le hb (Nat.pow_le_pow_right (by decide) (by omega)))]; rfl
/-- ((b << s) | (b >> (n - s))) & mask(n), s the remainder of the number -/
theorem later_bits {n b : Nat} (hn : 1 ≤ n) (hb : b < 2 ^ n) (k : Int) :
    ((b * 2 ^ (k % (n : Int)).toNat) ||| (b / 2 ^ ((n : Int) - k % (n : Int)).toNat)) % 2 ^ n = bitsOf n (fun d => hold n b (d - k)) := by
  obtain ⟨h1, h2⟩ := mod_lt' hn k
  have ed := Int.emod_add_mul_ediv k (n : Int)
  generalize hs : (k % (n : Int)).toNat = s at *
  have e2 : ((n : Int) - k % (n : Int)).toNat = n - s := by omega
  rw [e2]
  apply Nat.eq_of_testBit_eq; intro i
  rw [Nat.testBit_mod_two_pow, Nat.testBit_or, Nat.testBit_mul_two_pow, Nat.testBit_div_two_pow, tb_bitsOf]
  by_cases h : i < n
  · rw [decide_eq_true h, Bool.true_and, Bool.true_and]
    by_cases h3 : s ≤ i
    · have e : ((i : Int) - k) % (n : Int) = ((i - s : Nat) : Int) % (n : Int) := by
        have : (i : Int) - k = ((i - s : Nat) : Int) - n * (k / n) := by omega
        rw [this, Int.sub_mul_emod_self_left]
      rw [decide_eq_true h3, hold_eq e, hold_nat (by omega), Nat.testBit_lt_two_pow (x := b) (i := i + (n - s)) (Nat.lt_of_lt_of_le hb (Nat.pow_le_pow_right (by decide) (by omega)))]
      simp
    · have e : ((i : Int) - k) % (n : Int) = ((i + (n - s) : Nat) : Int) % (n : Int) := by
        have : (i : Int) - k = ((i + (n - s) : Nat) : Int) - n * (k / n + 1) := by rw [Int.mul_add]; omega
        rw [this, Int.sub_mul_emod_self_left]
      rw [decide_eq_false h3, hold_eq e, hold_nat (by omega)]
      simp
  · rw [decide_eq_false h]; rfl
theorem lcm_c {n m : Nat} (hn : 1 ≤ n) : lcmI (n : Int) (m : Int) = ((Nat.lcm n m : Nat) : Int) := by
  have h1 := lcm_mul_gcd (a := (n : Int)) (b := (m : Int)) (by omega)
  have hg := gcd_pos (a := (n : Int)) (b := (m : Int)) (by omega)
  have h2 := Nat.gcd_mul_lcm n m
  have e : ((Int.gcd (n : Int) (m : Int) : Nat) : Int) = ((Nat.gcd n m : Nat) : Int) := by rw [Int.gcd_natCast_natCast]
  rw [e] at h1 hg
  have h3 : ((Nat.lcm n m : Nat) : Int) * ((Nat.gcd n m : Nat) : Int) = (n : Int) * m := by
    rw [← Int.natCast_mul, ← Int.natCast_mul, Nat.mul_comm, h2]
  exact Int.eq_of_mul_eq_mul_right (by omega) (h1.trans h3.symm)
theorem lcm1 {n m : Nat} (hn : 1 ≤ n) (hm : 1 ≤ m) : 1 ≤ Nat.lcm n m := Nat.lcm_pos hn hm
/-! ### drawn rounds -/
theorem pow_pos_c (k : Nat) : (0 : Int) < ((2 ^ k : Nat) : Int) := by have := Nat.two_pow_pos k; omega
theorem natmod (i : Int) (n : Nat) : ∃ x : Nat, i % ((2 ^ (n : Int).toNat : Nat) : Int) = (x : Int) ∧ x < 2 ^ n := by
  rw [Int.toNat_natCast]
  have hp := Nat.two_pow_pos n
  have h1 := Int.emod_nonneg i (show ((2 ^ n : Nat) : Int) ≠ 0 by omega)
  have h2 := Int.emod_lt_of_pos i (show (0 : Int) < ((2 ^ n : Nat) : Int) by omega)
  exact ⟨(i % ((2 ^ n : Nat) : Int)).toNat, by omega, by omega⟩
theorem mask_nat (n : Nat) : ((2 ^ (n : Int).toNat : Nat) : Int) - 1 = ((2 ^ n - 1 : Nat) : Int) := by
  rw [Int.toNat_natCast]
  have hp := Nat.two_pow_pos n
  omega
theorem one_lt {n : Nat} (hn : 1 ≤ n) (z : Int) : 2 ^ (z % (n : Int)).toNat < 2 ^ n := Nat.pow_lt_pow_right (by decide) (mod_lt' hn z).1
theorem pow_le {n : Nat} : 2 ^ n - 1 < 2 ^ n := by have := Nat.two_pow_pos n; omega
/-- what a law asks of a told round: from 0 on and below 1 << size -/
theorem told_bits {n b : Nat} (h : b < 2 ^ n) : ((b : Nat) : Int) < ((2 ^ (n : Int).toNat : Nat) : Int) := by rw [Int.toNat_natCast]; exact Int.ofNat_lt.mpr h
def sp_round (K : PySem.W.Frag) (S : Nat) : Sp := fun vs H Q _ => ∃ (x y : Int), vs = [.int x, .int y] ∧ Sm 1048576 x ∧ Sm 1048576 y ∧
  ∀ (p : Addr) (H' : Hp) (n b : Nat), Same H H' → RT K H' p n b → n ≤ S → Q (.ref p) H'
theorem k_round {K : PySem.W.Frag} {S : Nat} {H : Hp} {Q : VK} {E : XK} {x y : Int} (h1 : Sm 1048576 x) (h2 : Sm 1048576 y)
    (q : ∀ (p : Addr) (H' : Hp) (n b : Nat), Same H H' → RT K H' p n b → n ≤ S → Q (.ref p) H') : sp_round K S [.int x, .int y] H Q E := ⟨x, y, rfl, h1, h2, q⟩
/-! ### folded -/
/-- the days of a round by a divisor of its size -/
def foldB (s b : Nat) : Nat → Nat
  | 0 => 0
  | k + 1 => (b % 2 ^ s) ||| foldB s (b / 2 ^ s) k
theorem tb_fold (s : Nat) : ∀ (k b i : Nat), (foldB s b k).testBit i = true ↔ (i < s ∧ ∃ j, j < k ∧ b.testBit (i + j * s) = true)
  | 0, b, i => by simp [foldB]
  | k + 1, b, i => by
    have ih := tb_fold s k (b / 2 ^ s) i
    unfold foldB
    rw [Nat.testBit_or, Bool.or_eq_true, ih, Nat.testBit_mod_two_pow, Bool.and_eq_true, decide_eq_true_eq]
    constructor
    · rintro (⟨h1, h2⟩ | ⟨h1, j, h2, h3⟩)
      · exact ⟨h1, 0, by omega, by simpa using h2⟩
      · refine ⟨h1, j + 1, by omega, ?_⟩
        rw [Nat.testBit_div_two_pow] at h3
        rw [Nat.add_mul, Nat.one_mul, ← Nat.add_assoc]; exact h3
    · rintro ⟨h1, j, h2, h3⟩
      cases j with
      | zero => exact .inl ⟨h1, by simpa using h3⟩
      | succ j =>
        refine .inr ⟨h1, j, by omega, ?_⟩
        rw [Nat.testBit_div_two_pow]
        rw [Nat.add_mul, Nat.one_mul, ← Nat.add_assoc] at h3; exact h3
theorem fold_lt (s b k : Nat) : foldB s b k < 2 ^ s := by
  apply Nat.lt_pow_two_of_testBit
  intro i hi
  cases h : (foldB s b k).testBit i with
  | false => rfl
  | true =>
    have := (tb_fold s k b i).mp h
    omega
theorem fold_zero (s : Nat) : ∀ k, foldB s 0 k = 0
  | 0 => rfl
  | k + 1 => by unfold foldB; rw [Nat.zero_div, fold_zero s k]; simp
/-- it holds where the round holds on some day that is alike -/
theorem fold_hold {n s b : Nat} (hn : 1 ≤ n) (hs : 1 ≤ s) (hd : s ∣ n) (hb : b < 2 ^ n) (d : Int) : hold s (foldB s b (n / s)) d = true ↔ ∃ e : Int, hold n b e = true ∧ (e - d) % (s : Int) = 0 := by
  obtain ⟨c, rfl⟩ := hd
  have hc : s * c / s = c := Nat.mul_div_cancel_left c (by omega)
  rw [hc]
  obtain ⟨h1, h2⟩ := mod_lt' hs d
  unfold hold
  rw [tb_fold]
  constructor
  · rintro ⟨_, j, hj, hjb⟩
    refine ⟨((((d % (s : Int)).toNat + j * s : Nat)) : Int), ?_, ?_⟩
    · have hlt : (d % (s : Int)).toNat + j * s < s * c := by
        have : (j + 1) * s ≤ c * s := Nat.mul_le_mul_right _ hj
        rw [Nat.add_mul, Nat.one_mul, Nat.mul_comm c s] at this
        omega
      rw [Int.emod_eq_of_lt (by omega) (by omega), Int.toNat_natCast]
      exact hjb
    · rw [Int.natCast_add, h2, Int.natCast_mul]
      have e := Int.emod_add_mul_ediv d (s : Int)
      have : d % (s : Int) + (j : Int) * (s : Int) - d = (s : Int) * (j - d / s) := by rw [Int.mul_sub, Int.mul_comm (s : Int) j]; omega
      rw [this, Int.mul_emod_right]
  · rintro ⟨e, he, hed⟩
    have hsc : (1 : Nat) ≤ s * c := hn
    obtain ⟨g1, g2⟩ := mod_lt' hsc e
    refine ⟨h1, (e % ((s * c : Nat) : Int)).toNat / s, ?_, ?_⟩
    · exact Nat.div_lt_of_lt_mul g1
    · have hm : (e % ((s * c : Nat) : Int)).toNat % s = (d % (s : Int)).toNat := by
        have a1 : (((e % ((s * c : Nat) : Int)).toNat % s : Nat) : Int) = d % (s : Int) := by
          rw [Int.natCast_emod, g2, Int.emod_emod_of_dvd _ (by exact ⟨(c : Int), by rw [Int.natCast_mul]⟩)]
          have := Int.emod_emod_of_dvd e (Int.dvd_refl (s : Int))
          have h3 := Int.dvd_of_emod_eq_zero hed
          obtain ⟨z, hz⟩ := h3
          have : e = d + s * z := by omega
          rw [this, Int.add_mul_emod_self_left]
        omega
      have e2 := Nat.mod_add_div (e % ((s * c : Nat) : Int)).toNat s
      rw [← hm, Nat.mul_comm _ s, e2]; exact he

/-! ### how many bits are 1 -/
def cnt (f : Nat → Bool) : Nat → Nat
  | 0 => 0
  | k + 1 => cnt f k + if f k then 1 else 0
theorem cnt_ext {f g : Nat → Bool} : ∀ {n : Nat}, (∀ i, i < n → f i = g i) → cnt f n = cnt g n
  | 0, _ => rfl
  | n + 1, h => by
    unfold cnt
    rw [cnt_ext (n := n) (fun i hi => h i (by omega)), h n (by omega)]
theorem cnt_add (f : Nat → Bool) (m : Nat) : ∀ n, cnt f (m + n) = cnt f m + cnt (fun i => f (m + i)) n
  | 0 => rfl
  | n + 1 => by
    show cnt f (m + n) + (if f (m + n) then 1 else 0) = cnt f m + (cnt (fun i => f (m + i)) n + if f (m + n) then 1 else 0)
    rw [cnt_add f m n, Nat.add_assoc]
theorem cnt_le (f : Nat → Bool) : ∀ n, cnt f n ≤ n
  | 0 => Nat.le_refl 0
  | n + 1 => by
    have := cnt_le f n
    unfold cnt; split <;> omega
theorem cnt_mono (f : Nat → Bool) {m n : Nat} (h : m ≤ n) : cnt f m ≤ cnt f n := by
  obtain ⟨k, rfl⟩ := Nat.exists_eq_add_of_le h
  rw [cnt_add]; omega
theorem cnt_zero {f : Nat → Bool} : ∀ {n : Nat}, (∀ i, i < n → f i = false) → cnt f n = 0
  | 0, _ => rfl
  | n + 1, h => by
    unfold cnt
    rw [cnt_zero (n := n) (fun i hi => h i (by omega)), h n (by omega)]; rfl
theorem cnt_pos {f : Nat → Bool} {n i : Nat} (hi : i < n) (h : f i = true) : 0 < cnt f n := by
  have : cnt f (i + 1) ≤ cnt f n := cnt_mono f (by omega)
  have e : cnt f (i + 1) = cnt f i + if f i then 1 else 0 := rfl
  rw [e, if_pos h] at this
  omega
def pop (x : Nat) : Nat := if x = 0 then 0 else x % 2 + pop (x / 2)
termination_by x
decreasing_by omega
theorem pop_zero : pop 0 = 0 := by unfold pop; simp
theorem pop_step (x : Nat) : pop x = x % 2 + pop (x / 2) := by
  by_cases h : x = 0
  · subst h; simp [pop_zero]
  · rw [pop]; simp [h]
theorem pop_pos {x : Nat} (h : 0 < x) : 0 < pop x := by
  induction x using Nat.strongRecOn with
  | _ x ih =>
    rw [pop_step]
    by_cases h2 : x % 2 = 1
    · omega
    · have := ih (x / 2) (by omega) (by omega); omega
theorem pop_clear {x : Nat} (h : 0 < x) : pop (x &&& (x - 1)) + 1 = pop x := by
  induction x using Nat.strongRecOn with
  | _ x ih =>
    by_cases h2 : x % 2 = 1
    · have e : x &&& (x - 1) = 2 * (x / 2) := by
        apply Nat.eq_of_testBit_eq
        intro i
        rw [Nat.testBit_and]
        cases i with
        | zero =>
          rw [Nat.testBit_zero, Nat.testBit_zero, Nat.testBit_zero, decide_eq_false (show ¬ (x - 1) % 2 = 1 by omega), decide_eq_false (show ¬ 2 * (x / 2) % 2 = 1 by omega), Bool.and_false]
        | succ i =>
          rw [Nat.testBit_succ, Nat.testBit_succ, Nat.testBit_succ, show (x - 1) / 2 = x / 2 by omega, show 2 * (x / 2) / 2 = x / 2 by omega, Bool.and_self]
      rw [e, pop_step (2 * (x / 2)), pop_step x, show 2 * (x / 2) / 2 = x / 2 by omega]
      omega
    · have e : x &&& (x - 1) = 2 * ((x / 2) &&& (x / 2 - 1)) := by
        apply Nat.eq_of_testBit_eq
        intro i
        rw [Nat.testBit_and]
        cases i with
        | zero =>
          rw [Nat.testBit_zero, Nat.testBit_zero, Nat.testBit_zero, decide_eq_false (show ¬ x % 2 = 1 by omega), decide_eq_false (show ¬ 2 * (x / 2 &&& (x / 2 - 1)) % 2 = 1 by omega), Bool.false_and]
        | succ i =>
          rw [Nat.testBit_succ, Nat.testBit_succ, Nat.testBit_succ, show (x - 1) / 2 = x / 2 - 1 by omega, show 2 * (x / 2 &&& (x / 2 - 1)) / 2 = x / 2 &&& (x / 2 - 1) by omega, Nat.testBit_and]
      have := ih (x / 2) (by omega) (by omega)
      rw [e, pop_step (2 * _), show 2 * (x / 2 &&& (x / 2 - 1)) / 2 = x / 2 &&& (x / 2 - 1) by omega, pop_step x]
      omega
theorem pop_split (x : Nat) : ∀ k, pop (x % 2 ^ k) + pop (x / 2 ^ k) = pop x
  | 0 => by simp [Nat.mod_one, pop_zero]
  | k + 1 => by
    have h1 := pop_split x k
    have h2 := pop_step (x / 2 ^ k)
    have e1 : x / 2 ^ k / 2 = x / 2 ^ (k + 1) := by rw [Nat.div_div_eq_div_mul, Nat.pow_succ]
    have e2 : pop (x % 2 ^ (k + 1)) = pop (x % 2 ^ k) + x / 2 ^ k % 2 := by
      have e3 : x % 2 ^ (k + 1) = x % 2 ^ k + 2 ^ k * (x / 2 ^ k % 2) := by rw [Nat.pow_succ, Nat.mod_mul]
      rcases Nat.mod_two_eq_zero_or_one (x / 2 ^ k) with h | h
      · rw [e3, h]; simp
      · rw [e3, h, Nat.mul_one]
        exact pop_top (Nat.mod_lt _ (Nat.two_pow_pos k))
    rw [e1] at h2
    omega
where
  pop_top : ∀ {k y : Nat}, y < 2 ^ k → pop (y + 2 ^ k) = pop y + 1
    | 0, y, h => by
      have : y = 0 := by simpa using h
      subst this
      rw [pop_step]; simp [pop_zero]
    | k + 1, y, h => by
      rw [Nat.pow_succ] at h
      have ih := pop_top (k := k) (y := y / 2) (by omega)
      rw [pop_step, pop_step y, Nat.pow_succ, show (y + 2 ^ k * 2) / 2 = y / 2 + 2 ^ k by omega, ih]
      omega
theorem pop_cnt {x : Nat} : ∀ n, pop (x % 2 ^ n) = cnt x.testBit n
  | 0 => by simp [Nat.mod_one, pop_zero, cnt]
  | k + 1 => by
    have ih := pop_cnt (x := x) k
    have e3 : x % 2 ^ (k + 1) = x % 2 ^ k + 2 ^ k * (x / 2 ^ k % 2) := by rw [Nat.pow_succ, Nat.mod_mul]
    unfold cnt
    rcases Nat.mod_two_eq_zero_or_one (x / 2 ^ k) with h | h
    · rw [e3, h, Nat.mul_zero, Nat.add_zero, ih, Nat.testBit_eq_decide_div_mod_eq, decide_eq_false (by omega)]; rfl
    · rw [e3, h, Nat.mul_one, pop_split.pop_top (Nat.mod_lt _ (Nat.two_pow_pos k)), ih, Nat.testBit_eq_decide_div_mod_eq, decide_eq_true h]; rfl
theorem pop_eq {x n : Nat} (h : x < 2 ^ n) : pop x = cnt x.testBit n := by
  rw [← pop_cnt, Nat.mod_eq_of_lt h]
theorem pop_le {x n : Nat} (h : x < 2 ^ n) : pop x ≤ n := by rw [pop_eq h]; exact cnt_le _ _
theorem and_pred {x : Nat} (h : 0 < x) : Builtin.bitAnd (x : Int) ((x : Int) - 1) = ((x &&& (x - 1) : Nat) : Int) := by
  have : (x : Int) - 1 = ((x - 1 : Nat) : Int) := by omega
  rw [this, and_c]
theorem and_pred_lt {x : Nat} (h : 0 < x) : x &&& (x - 1) < x := Nat.lt_of_le_of_lt Nat.and_le_right (by omega)
/-! ### the lowest bit -/
theorem low_bit {x : Nat} (h : 0 < x) : ∃ k, x - (x &&& (x - 1)) = 2 ^ k ∧ x.testBit k = true ∧ ∀ i, i < k → x.testBit i = false := by
  induction x using Nat.strongRecOn with
  | _ x ih =>
    by_cases h2 : x % 2 = 1
    · refine ⟨0, ?_, by rw [Nat.testBit_zero, decide_eq_true h2], fun i hi => by omega⟩
      have e : x &&& (x - 1) = 2 * (x / 2) := by
        apply Nat.eq_of_testBit_eq
        intro i
        rw [Nat.testBit_and]
        cases i with
        | zero =>
          rw [Nat.testBit_zero, Nat.testBit_zero, Nat.testBit_zero, decide_eq_false (show ¬ (x - 1) % 2 = 1 by omega), decide_eq_false (show ¬ 2 * (x / 2) % 2 = 1 by omega), Bool.and_false]
        | succ i =>
          rw [Nat.testBit_succ, Nat.testBit_succ, Nat.testBit_succ, show (x - 1) / 2 = x / 2 by omega, show 2 * (x / 2) / 2 = x / 2 by omega, Bool.and_self]
      rw [e]; omega
    · obtain ⟨k, h3, h4, h5⟩ := ih (x / 2) (by omega) (by omega)
      have e : x &&& (x - 1) = 2 * ((x / 2) &&& (x / 2 - 1)) := by
        apply Nat.eq_of_testBit_eq
        intro i
        rw [Nat.testBit_and]
        cases i with
        | zero =>
          rw [Nat.testBit_zero, Nat.testBit_zero, Nat.testBit_zero, decide_eq_false (show ¬ x % 2 = 1 by omega), decide_eq_false (show ¬ 2 * (x / 2 &&& (x / 2 - 1)) % 2 = 1 by omega), Bool.false_and]
        | succ i =>
          rw [Nat.testBit_succ, Nat.testBit_succ, Nat.testBit_succ, show (x - 1) / 2 = x / 2 - 1 by omega, show 2 * (x / 2 &&& (x / 2 - 1)) / 2 = x / 2 &&& (x / 2 - 1) by omega, Nat.testBit_and]
      refine ⟨k + 1, ?_, by rw [Nat.testBit_succ]; exact h4, fun i hi => ?_⟩
      · have h6 : x / 2 &&& (x / 2 - 1) ≤ x / 2 := Nat.and_le_left
        rw [e, Nat.pow_succ]; omega
      · cases i with
        | zero => rw [Nat.testBit_zero, decide_eq_false h2]
        | succ i => rw [Nat.testBit_succ]; exact h5 i (by omega)
theorem and_neg {x : Nat} (h : 0 < x) : Builtin.bitAnd (x : Int) (-(x : Int)) = ((x - (x &&& (x - 1)) : Nat) : Int) := by
  have e : Builtin.bitNot (-(x : Int)) = ((x - 1 : Nat) : Int) := by
    show -(-(x : Int)) - 1 = _
    omega
  have h6 : x &&& (x - 1) ≤ x := Nat.and_le_left
  rw [bitAnd_pn (by omega) (by omega), e, Int.toNat_natCast, Int.toNat_natCast]
  omega
theorem bits_pow (k : Nat) : Builtin.Int.intBits ((2 ^ k : Nat) : Int) = k + 1 := by
  unfold Builtin.Int.intBits
  have hp := Nat.two_pow_pos k
  rw [if_neg (show ¬ (((2 ^ k : Nat) : Int) == 0) = true by simpa using (show ((2 ^ k : Nat) : Int) ≠ 0 by omega)), Int.natAbs_natCast, Nat.log2_two_pow]
theorem bits_nat {x : Nat} (h : 0 < x) : Builtin.Int.intBits (x : Int) = x.log2 + 1 := by
  unfold Builtin.Int.intBits
  rw [if_neg (show ¬ ((x : Int) == 0) = true by simpa using (show (x : Int) ≠ 0 by omega)), Int.natAbs_natCast]
/-- the lowest bit's place, as the program finds it -/
theorem low_place {x : Nat} (h : 0 < x) : ∃ k, Builtin.Int.intBits (Builtin.bitAnd (x : Int) (-(x : Int))) = k + 1 ∧ x.testBit k = true ∧ ∀ i, i < k → x.testBit i = false := by
  obtain ⟨k, h1, h2, h3⟩ := low_bit h
  exact ⟨k, by rw [and_neg h, h1, bits_pow], h2, h3⟩
theorem high_place {x : Nat} (h : 0 < x) : ∃ k, Builtin.Int.intBits (x : Int) = k + 1 ∧ x.testBit k = true ∧ ∀ i, k < i → x.testBit i = false := by
  refine ⟨x.log2, bits_nat h, Nat.testBit_log2 (by omega), fun i hi => ?_⟩
  exact Nat.testBit_lt_two_pow (Nat.lt_of_lt_of_le (Nat.lt_log2_self) (Nat.pow_le_pow_right (by decide) (by omega)))
/-! ### how many days -/
/-- the days of a round from day 0 on and ahead of a day -/
def rankI (n b : Nat) (d : Int) : Int := d / (n : Int) * (pop b : Nat) + (pop (b % 2 ^ (d % (n : Int)).toNat) : Nat)
theorem rank_step {n b : Nat} (hn : 1 ≤ n) (hb : b < 2 ^ n) (d : Int) : rankI n b (d + 1) = rankI n b d + if hold n b d then 1 else 0 := by
  obtain ⟨h1, h2⟩ := mod_lt' hn d
  have e := Int.emod_add_mul_ediv d (n : Int)
  unfold rankI
  have hc : ∀ k, pop (b % 2 ^ k) = cnt b.testBit k := fun k => pop_cnt k
  have hh : hold n b d = b.testBit (d % (n : Int)).toNat := rfl
  rw [hh]
  generalize hk : (d % (n : Int)).toNat = k at *
  generalize hq : d / (n : Int) = q at *
  by_cases hlast : k + 1 < n
  · have e1 : (d + 1) % (n : Int) = ((k + 1 : Nat) : Int) := by
      have : d + 1 = ((k + 1 : Nat) : Int) + n * q := by omega
      rw [this, Int.add_mul_emod_self_left, Int.emod_eq_of_lt (by omega) (by omega)]
    have e2 : (d + 1) / (n : Int) = q := by
      have : d + 1 = ((k + 1 : Nat) : Int) + n * q := by omega
      rw [this, Int.add_mul_ediv_left _ _ (by omega), Int.ediv_eq_zero_of_lt (by omega) (by omega)]
      omega
    rw [e1, e2, Int.toNat_natCast, hc, hc]
    show q * (pop b : Nat) + ((cnt b.testBit k + if b.testBit k then 1 else 0 : Nat) : Int) = _
    split <;> omega
  · have e0 : k + 1 = n := by omega
    have e1 : (d + 1) % (n : Int) = 0 := by
      have : d + 1 = n * (q + 1) := by rw [Int.mul_add]; omega
      rw [this, Int.mul_emod_right]
    have e2 : (d + 1) / (n : Int) = q + 1 := by
      have : d + 1 = n * (q + 1) := by rw [Int.mul_add]; omega
      rw [this, Int.mul_ediv_cancel_left _ (by omega)]
    rw [e1, e2, hc, hc]
    have e3 : pop b = cnt b.testBit k + if b.testBit k then 1 else 0 := by
      rw [pop_eq hb, ← e0]; rfl
    have e4 : cnt b.testBit (0 : Int).toNat = 0 := rfl
    rw [e4, Int.add_mul, e3]
    split <;> omega
theorem rank_add {n b : Nat} (hn : 1 ≤ n) (hb : b < 2 ^ n) (d : Int) : ∀ k : Nat, rankI n b (d + k) = rankI n b d + (cnt (fun i => hold n b (d + i)) k : Nat)
  | 0 => by simp [cnt]
  | k + 1 => by
    have ih := rank_add hn hb d k
    have e : d + ((k + 1 : Nat) : Int) = (d + k) + 1 := by omega
    rw [e, rank_step hn hb, ih]
    show _ = _ + ((cnt (fun i => hold n b (d + i)) k + if hold n b (d + k) then 1 else 0 : Nat) : Int)
    split <;> omega
theorem rank_round {n b : Nat} (hn : 1 ≤ n) (d : Int) : rankI n b (d + n) = rankI n b d + (pop b : Nat) := by
  unfold rankI
  have e1 : (d + n) % (n : Int) = d % n := by rw [Int.add_emod_right]
  have e2 : (d + n) / (n : Int) = d / n + 1 := by
    have := Int.add_mul_ediv_left d 1 (show (n : Int) ≠ 0 by omega)
    rw [Int.mul_one] at this; exact this
  rw [e1, e2, Int.add_mul]; omega
theorem rank_mono {n b : Nat} (hn : 1 ≤ n) (hb : b < 2 ^ n) {d e : Int} (h : d ≤ e) : rankI n b d ≤ rankI n b e := by
  obtain ⟨k, hk⟩ := Int.eq_ofNat_of_zero_le (show 0 ≤ e - d by omega)
  have : e = d + k := by omega
  rw [this, rank_add hn hb]; omega
theorem rank_sm {n b : Nat} (hn : 1 ≤ n) (hn2 : n ≤ 150000) (hb : b < 2 ^ n) {d : Int} {s : Nat} (h : Sm s d) : Sm (s + 40) (rankI n b d) := by
  have h1 := pop_le hb
  have h2 : pop (b % 2 ^ (d % (n : Int)).toNat) ≤ n := pop_le (Nat.lt_of_le_of_lt (Nat.mod_le _ _) hb)
  have h3 : (d / (n : Int)).natAbs ≤ d.natAbs := Int.natAbs_ediv_le_natAbs d n
  have h4 := h.h
  refine ⟨?_⟩
  unfold rankI
  have h5 : (d / (n : Int) * (pop b : Nat)).natAbs ≤ d.natAbs * 150000 := by
    rw [Int.natAbs_mul, Int.natAbs_natCast]
    exact Nat.mul_le_mul h3 (by omega)
  have h6 : 2 ^ (s + 40) = 2 ^ s * 1099511627776 := by rw [Nat.pow_add]
  have h7 := Nat.two_pow_pos s
  rw [h6]
  generalize (2 : Nat) ^ s = X at *
  omega

/-! ### a list that is written: all else stays -/
def Mut (p : Addr) (H H' : Hp) : Prop := ∀ a o, a ≠ p → H a = some o → H' a = some o
theorem Mut.of {p : Addr} {H H' : Hp} (s : Same H H') : Mut p H H' := fun a o _ h => s a o h
theorem Mut.trans {p : Addr} {H H' H2 : Hp} (m : Mut p H H') (m2 : Mut p H' H2) : Mut p H H2 := fun a o n h => m2 a o n (m a o n h)
theorem Mut.same {p : Addr} {H0 H H' : Hp} (s : Same H0 H) (m : Mut p H H') (h : H0 p = none) : Same H0 H' := fun a o e => m a o (fun e2 => by subst e2; rw [h] at e; exact nomatch e) (s a o e)
theorem mut_upd {p : Addr} {H : Hp} {o : HO} : Mut p H (upd H p o) := fun a x n h => by rw [upd_ne n]; exact h
theorem mut_t {K : PySem.W.Frag} {H H' : Hp} {p a : Addr} {xs ys : List V} (m : Mut p H H') (hp : H p = some (.lst xs)) (h : SqT K H a ys) : SqT K H' a ys := by
  rcases h with (h | ⟨o, h⟩) | h
  · exact .inl (.inl (m _ _ (fun e => by subst e; rw [hp] at h; exact nomatch h) h))
  · exact .inl (.inr ⟨o, m _ _ (fun e => by subst e; rw [hp] at h; exact nomatch h) h⟩)
  · exact .inr h
theorem mut_l {K : PySem.W.Frag} {H H' : Hp} {p a : Addr} {ys : List V} (m : Mut p H H') (n : a ≠ p) (h : SqL K H a ys) : SqL K H' a ys := by
  rcases h with (h | ⟨o, h⟩) | h
  · exact .inl (.inl (m _ _ n h))
  · exact .inl (.inr ⟨o, m _ _ n h⟩)
  · exact .inr h
theorem RT.mut {K : PySem.W.Frag} {H H' : Hp} {p a : Addr} {xs : List V} {n b : Nat} (m : Mut p H H') (hp : H p = some (.lst xs)) (r : RT K H a n b) : RT K H' a n b := ⟨mut_t m hp r.t, r.n1, r.n2, r.lt⟩
section
variable {K : PySem.W.Frag} {H : Hp} {Q : VK} {σ : L2.St} {l p : Addr} {xs : List V} {y : V}
def App (l : Addr) (ys : List V) (H : Hp) (Q : VK) : Prop := rAppend (.ref l) ys H Q
def BmR (K : PySem.W.Frag) (T : String) (r : V → List V → Hp → VK → Prop) (t : TA) (σ : L2.St) (x : V) (H : Hp) (Q : VK) : Prop := tyV K T x H ∧ t σ H fun xs H2 => r x xs H2 Q
theorem k_bm {T : String} {r : V → List V → Hp → VK → Prop} {to : TE} {t : TA} (h : to σ H fun x H1 => BmR K T r t σ x H1 Q) : tBM K T r to t σ H Q := h
theorem k_bmA {t : TA} (hl : SqL K H l xs) (h : t σ H fun ys H2 => App l ys H2 Q) : BmR K "list" rAppend t σ (.ref l) H Q := ⟨.inl ⟨rfl, xs, hl⟩, h⟩
theorem k_app (h : H l = some (.lst xs)) (hz : xs.length ≤ 1000000) (q : ∀ H', Mut l H H' → H' l = some (.lst (xs ++ [y])) → Q .non H') : App l [y] H Q :=
  ⟨l, xs, y, rfl, rfl, h, Nat.lt_of_le_of_lt hz (by decide), q _ mut_upd upd_same⟩
/-! ### slices -/
def SlV (K : PySem.W.Frag) (x : V) (lo hi : Option Int) (H : Hp) (Q : VK) : Prop := rSlL K x lo hi H Q
def PartV (x : V) (H : Hp) (Q : Option Int → Hp → Prop) : Prop := ∃ i, x = .int i ∧ Q (some i) H
theorem k_sl {te : TE} {tl th : TO} (h : te σ H fun x H1 => tl σ H1 fun lo H2 => th σ H2 fun hi H3 => SlV K x lo hi H3 Q) : L2.tSl (rSlL K) te tl th σ H Q := h
theorem k_part {t : TE} {Q : Option Int → Hp → Prop} (h : t σ H fun x H1 => PartV x H1 Q) : tPart t σ H Q := h
theorem k_partV {i : Int} {Q : Option Int → Hp → Prop} (h : Q (some i) H) : PartV (.int i) H Q := ⟨i, rfl, h⟩
theorem k_nopart {Q : Option Int → Hp → Prop} (h : Q none H) : tNoPart σ H Q := h
theorem k_slV {lo hi : Option Int} (h : SqL K H p xs) (q : ∀ a H2, H a = none → Same H H2 → H2 a = some (.lst (cutV xs lo hi)) → Q (.ref a) H2) : SlV K (.ref p) lo hi H Q :=
  ⟨p, xs, rfl, h, fun a ha => q a _ ha (same_new ha) upd_same⟩
theorem cutV_ints (ns : List Int) (lo hi : Option Int) : ∃ ms : List Int, cutV (ns.map V.int) lo hi = ms.map V.int ∧ (∀ z ∈ ms, z ∈ ns) ∧ ms.length ≤ ns.length := by
  refine ⟨(ns.drop (HT.sIx (ns.map V.int).length 0 lo)).take (HT.sIx (ns.map V.int).length (ns.map V.int).length hi - HT.sIx (ns.map V.int).length 0 lo), ?_, fun z hz => List.mem_of_mem_drop (List.mem_of_mem_take hz), ?_⟩
  · unfold cutV; rw [List.map_take, List.map_drop]
  · rw [List.length_take, List.length_drop]; omega
theorem cutV_to (xs : List V) (k : Nat) : (cutV xs none (some (k : Int))).length ≤ k := by
  unfold cutV
  rw [List.length_take, HT.sIx_nat]
  omega
/-! ### list(a list), a[i] = y -/
def LofV (K : PySem.W.Frag) (xs : List V) (H : Hp) (Q : VK) : Prop := ∃ p ys, xs = [.ref p] ∧ (SqL K H p ys ∨ SqT K H p ys) ∧ ∀ l, H l = none → Q (.ref l) (upd H l (.lst ys))
def rLof (K : PySem.W.Frag) : List V → Hp → VK → Prop := fun xs H Q => LofV K xs H Q
theorem kb_lof {X : Cx} (K : PySem.W.Frag) (hk : X.K = K) : CallR X (.type "list") (rLof K) := by subst hk; exact call_list_of
theorem k_lofL {ys : List V} (h : SqL K H p ys) (q : ∀ a H2, H a = none → Same H H2 → H2 a = some (.lst ys) → Q (.ref a) H2) : rLof K [.ref p] H Q := ⟨p, ys, rfl, .inl h, fun a ha => q a _ ha (same_new ha) upd_same⟩
def SetV (o i v : V) (H : Hp) (Q : Hp → Prop) : Prop := rSetL o i v H Q
theorem k_gsub {to ti : TE} {v : V} {Q : L2.St → Hp → Prop} (h : to σ H fun o H1 => ti σ H1 fun i H2 => SetV o i v H2 fun H3 => Q σ H3) : gSub to ti rSetL v σ H Q := h
theorem k_setV {i : Int} {j : Nat} {v : V} {Q : Hp → Prop} (h : H p = some (.lst xs)) (hj : ixN xs.length i = some j) (q : ∀ H', Mut p H H' → H' p = some (.lst (xs.set j v)) → Q H') : SetV (.ref p) (.int i) v H Q :=
  ⟨p, xs, i, j, rfl, rfl, h, hj, q _ mut_upd upd_same⟩
end
theorem k_eqE {K : PySem.W.Frag} {H : Hp} {Q : VK} {p q : Addr} {l : List Int} (h1 : SqL K H p (l.map V.int)) (h2 : SqL K H q []) (r : Q (.bl (decide (l = []))) H) : rEqA K (.ref p) (.ref q) H Q := k_eqL (m := []) h1 h2 r
theorem k_neE {K : PySem.W.Frag} {H : Hp} {Q : VK} {p q : Addr} {l : List Int} (h1 : SqL K H p (l.map V.int)) (h2 : SqL K H q []) (r : Q (.bl (!decide (l = []))) H) : rNeA K (.ref p) (.ref q) H Q := k_neL (m := []) h1 h2 r
theorem atI_last {l : List Int} (h : l ≠ []) : ∃ z, z ∈ l ∧ atI (l.map V.int) (-1) = some (.int z) := by
  have hp : 0 < l.length := List.length_pos_iff.mpr h
  refine ⟨l[l.length - 1], List.getElem_mem _, ?_⟩
  unfold atI ixN
  rw [if_neg (by decide), if_pos (by rw [List.length_map]; omega), List.length_map, show ((-1 : Int) + (l.length : Int)).toNat = l.length - 1 by omega]
  show (l.map V.int)[l.length - 1]? = _
  rw [List.getElem?_map, List.getElem?_eq_getElem (by omega)]
  rfl
/-- days of a round, as a list -/
structure DL (K : PySem.W.Frag) (H : Hp) (L : Addr) (n : Nat) (l : List Int) : Prop where
  h : SqL K H L (l.map V.int)
  b : ∀ x ∈ l, 0 ≤ x ∧ x < n
  z : l.length ≤ 4000
theorem DL.mono {K : PySem.W.Frag} {H H' : Hp} {L : Addr} {n : Nat} {l : List Int} (r : DL K H L n l) (s : Same H H') : DL K H' L n l := ⟨same_l s r.h, r.b, r.z⟩
theorem tb_put {x d : Nat} {l : List Int} (hx : ∀ j, x.testBit j = true ↔ (j : Int) ∈ l) (j : Nat) : (x ||| 2 ^ d).testBit j = true ↔ (j : Int) ∈ l ++ [(d : Int)] := by
  rw [Nat.testBit_or, Nat.testBit_two_pow, Bool.or_eq_true, hx, List.mem_append, List.mem_singleton, decide_eq_true_iff]
  constructor <;> (rintro (h | h); exact .inl h; right; omega)
theorem tb_add {x e : Nat} (h : x.testBit e = false) (j : Nat) : (2 ^ e + x).testBit j = (decide (e = j) || x.testBit j) := by
  rcases Nat.lt_trichotomy j e with hj | hj | hj
  · rw [Nat.testBit_two_pow_add_gt hj, decide_eq_false (by omega), Bool.false_or]
  · subst hj; rw [Nat.testBit_two_pow_add_eq, h]; simp
  · obtain ⟨k, rfl⟩ := Nat.exists_eq_add_of_lt hj
    rw [decide_eq_false (by omega), Bool.false_or]
    have e1 : ∀ y : Nat, y.testBit (e + k + 1) = (y / 2 ^ e / 2).testBit k := fun y => by
      rw [Nat.div_div_eq_div_mul, ← Nat.pow_succ, Nat.testBit_div_two_pow]; congr 1; omega
    rw [e1, e1, Nat.add_div_left _ (Nat.two_pow_pos e)]
    rw [Nat.testBit_eq_decide_div_mod_eq] at h
    have := of_decide_eq_false h
    congr 1
    omega
theorem sum_bits {n : Nat} : ∀ {l : List Int}, l.Nodup → (∀ x ∈ l, 0 ≤ x ∧ x < (n : Int)) →
    ∃ x : Nat, (l.map fun e => ((2 ^ e.toNat : Nat) : Int)).sum = (x : Int) ∧ x < 2 ^ n ∧ ∀ j : Nat, x.testBit j = true ↔ (j : Int) ∈ l
  | [], _, _ => ⟨0, rfl, Nat.two_pow_pos n, fun j => by simp⟩
  | e :: r, hd, hb => by
    obtain ⟨x, h1, h2, h3⟩ := sum_bits (n := n) (List.nodup_cons.mp hd).2 (fun y hy => hb y (List.mem_cons_of_mem _ hy))
    obtain ⟨b0, b1⟩ := hb e List.mem_cons_self
    obtain ⟨k, rfl⟩ := Int.eq_ofNat_of_zero_le b0
    have hk : x.testBit k = false := by
      cases hx : x.testBit k with
      | false => rfl
      | true => exact absurd ((h3 k).mp hx) (List.nodup_cons.mp hd).1
    have ht := tb_add hk
    refine ⟨2 ^ k + x, ?_, ?_, fun j => ?_⟩
    · rw [List.map_cons, List.sum_cons, h1, Int.toNat_natCast, Int.natCast_add]
    · refine Nat.lt_pow_two_of_testBit _ fun i hi => ?_
      rw [ht, decide_eq_false (by omega), Bool.false_or]
      exact Nat.testBit_lt_two_pow (Nat.lt_of_lt_of_le h2 (Nat.pow_le_pow_right (by decide) hi))
    · rw [ht, Bool.or_eq_true, decide_eq_true_iff, h3, List.mem_cons]
      constructor
      · rintro (h | h)
        · left; omega
        · exact .inr h
      · rintro (h | h)
        · left; omega
        · exact .inr h

/-! ### the least round -/
/-- a round comes again after so many days -/
def Per (n b j : Nat) : Prop := ∀ d : Int, hold n b (d + j) = hold n b d
theorem per_size {n b : Nat} : Per n b n := fun d => hold_eq (by rw [Int.add_emod_right])
theorem per_mul {n b j : Nat} (h : Per n b j) : ∀ (k : Nat) (d : Int), hold n b (d + (j : Int) * k) = hold n b d
  | 0, d => by simp
  | k + 1, d => by
    have e : d + (j : Int) * ((k + 1 : Nat) : Int) = (d + (j : Int) * k) + j := by rw [Int.natCast_add, Int.mul_add]; omega
    rw [e, h, per_mul h k]
theorem per_mulz {n b j : Nat} (h : Per n b j) (k d : Int) : hold n b (d + (j : Int) * k) = hold n b d := by
  by_cases hk : 0 ≤ k
  · obtain ⟨m, rfl⟩ := Int.eq_ofNat_of_zero_le hk
    exact per_mul h m d
  · obtain ⟨m, hm⟩ := Int.eq_ofNat_of_zero_le (show 0 ≤ -k by omega)
    have := per_mul h m (d + (j : Int) * k)
    rw [← this]
    congr 1
    rw [show k = -(m : Int) by omega, Int.mul_neg]; omega
theorem per_mod {n b j : Nat} (h : Per n b j) (d : Int) : hold n b (d % (j : Int)) = hold n b d := by
  have e := Int.emod_add_mul_ediv d (j : Int)
  have := per_mulz h (d / (j : Int)) (d % (j : Int))
  rw [e] at this; exact this.symm
theorem least_ex (p : Nat → Prop) : ∀ n, p n → ∃ m, p m ∧ ∀ k, k < m → ¬ p k := by
  intro n
  induction n using Nat.strongRecOn with
  | _ n ih =>
    intro h
    by_cases hx : ∃ k, k < n ∧ p k
    · obtain ⟨k, hk, hp⟩ := hx
      exact ih k hk hp
    · exact ⟨n, h, fun k hk hp => hx ⟨k, hk, hp⟩⟩
/-- the least size by which it comes again; it divides each such size -/
theorem least_per {n b : Nat} (hn : 1 ≤ n) : ∃ P, 1 ≤ P ∧ Per n b P ∧ ∀ j, Per n b j → P ∣ j := by
  obtain ⟨P, ⟨h1, h2⟩, h3⟩ := least_ex (fun j => 1 ≤ j ∧ Per n b j) n ⟨hn, per_size⟩
  refine ⟨P, h1, h2, fun j hj => ?_⟩
  by_cases h : j % P = 0
  · exact Nat.dvd_of_mod_eq_zero h
  · exfalso
    refine h3 (j % P) (Nat.mod_lt _ h1) ⟨by omega, fun d => ?_⟩
    have e := Nat.mod_add_div j P
    have := per_mul h2 (j / P) (d + ((j % P : Nat) : Int))
    rw [← this, ← hj d]
    congr 1
    have e2 : (j : Int) = ((j % P : Nat) : Int) + (P : Int) * ((j / P : Nat) : Int) := by rw [← Int.natCast_mul, ← Int.natCast_add, e]
    omega
/-- cut to a size that divides: alike just where it comes again by it -/
theorem cut_hold {n b j : Nat} (hj : 1 ≤ j) (hjn : j ≤ n) (d : Int) : hold j (b % 2 ^ j) d = hold n b (d % (j : Int)) := by
  obtain ⟨h1, h2⟩ := mod_lt' hj d
  rw [← h2, hold_nat (by omega)]
  unfold hold
  rw [Nat.testBit_mod_two_pow, decide_eq_true h1, Bool.true_and]
theorem cut_alike {n b j : Nat} (hj : 1 ≤ j) (hd : j ∣ n) (hn : 1 ≤ n) (hb : b < 2 ^ n) : bitsOf n (hold j (b % 2 ^ j)) = b ↔ Per n b j := by
  have hjn := Nat.le_of_dvd hn hd
  constructor
  · intro h
    have key : ∀ d, hold n b d = hold j (b % 2 ^ j) d := fun d => by
      conv => lhs; rw [← h]
      exact hold_str hn hd d
    intro d
    rw [key, key]
    exact hold_eq (by rw [Int.add_emod_right])
  · intro h
    have : hold j (b % 2 ^ j) = hold n b := funext fun d => by rw [cut_hold hj hjn, per_mod h]
    rw [this, bitsOf_self hb]
/-- of a divisor that has no divisor of its own -/
theorem prime_step {x q r : Nat} (hq : ∀ d, d ∣ q → d = 1 ∨ d = q) (hx : x ∣ q * r) (hnd : ¬ q ∣ x) : x ∣ r := by
  have hg : Nat.gcd x q = 1 := by
    rcases hq _ (Nat.gcd_dvd_right x q) with h | h
    · exact h
    · exact absurd (h ▸ Nat.gcd_dvd_left x q) hnd
  exact (Nat.Coprime.dvd_of_dvd_mul_left hg hx)

/-! ### two periods over a stretch: the divisor of both is one -/
theorem fine_wilf : ∀ (N p q L : Nat) (w : Nat → Bool), p + q ≤ N → 0 < p → 0 < q → p + q ≤ L + Nat.gcd p q → (∀ i, i + p < L → w (i + p) = w i) → (∀ i, i + q < L → w (i + q) = w i) → ∀ i, i < L → w i = w (i % Nat.gcd p q) := by
  intro N
  induction N with
  | zero => intro p q L w h hp hq; omega
  | succ N ih =>
    intro p q L w hN hp hq hL h1 h2
    have hg : 0 < Nat.gcd p q := Nat.gcd_pos_of_pos_left _ hp
    -- the smaller from the greater
    have step : ∀ (p q L : Nat), p + q ≤ N + 1 → 0 < p → 0 < q → q < p → p + q ≤ L + Nat.gcd p q → (∀ i, i + p < L → w (i + p) = w i) → (∀ i, i + q < L → w (i + q) = w i) → ∀ i, i < L → w i = w (i % Nat.gcd p q) := by
      intro p q L hN hp hq hlt hL h1 h2
      have e : Nat.gcd (p - q) q = Nat.gcd p q := Nat.gcd_sub_self_left (by omega)
      have hgd : Nat.gcd p q ≤ p - q := Nat.le_of_dvd (by omega) (Nat.dvd_sub (Nat.gcd_dvd_left p q) (Nat.gcd_dvd_right p q))
      have hI := ih (p - q) q (L - q) w (by omega) (by omega) hq (by rw [e]; omega)
        (fun i hi => by
          have a1 := h2 (i + (p - q)) (by omega)
          rw [show i + (p - q) + q = i + p by omega] at a1
          rw [← a1]; exact h1 i (by omega))
        (fun i hi => h2 i (by omega))
      rw [e] at hI
      intro i
      induction i using Nat.strongRecOn with
      | _ i ih2 =>
        intro hi
        by_cases h3 : i < L - q
        · exact hI i h3
        · have h4 : q ≤ i := by omega
          have a1 := h2 (i - q) (by omega)
          rw [show i - q + q = i by omega] at a1
          have a2 := ih2 (i - q) (by omega) (by omega)
          rw [a1, a2]
          congr 1
          obtain ⟨c, hc⟩ := Nat.gcd_dvd_right p q
          have e2 : i = (i - q) + Nat.gcd p q * c := by omega
          conv => rhs; rw [e2]
          rw [Nat.add_mul_mod_self_left]
    by_cases hpq : p = q
    · subst hpq
      rw [Nat.gcd_self]
      intro i
      induction i using Nat.strongRecOn with
      | _ i ih2 =>
        intro hi
        by_cases h3 : i < p
        · rw [Nat.mod_eq_of_lt h3]
        · have a1 := h1 (i - p) (by omega)
          rw [show i - p + p = i by omega] at a1
          rw [a1, ih2 (i - p) (by omega) (by omega)]
          congr 1
          exact (Nat.mod_eq_sub_mod (by omega)).symm
    · by_cases hlt : q < p
      · exact step p q L hN hp hq hlt hL h1 h2
      · have := step q p L (by omega) hq hp (by omega) (by rw [Nat.gcd_comm]; omega) h2 h1
        rw [Nat.gcd_comm] at this
        exact this
/-- two rounds that are alike on so many days running are alike on all, and come again by the divisor of both sizes -/
theorem rounds_alike {n b m c : Nat} (hn : 1 ≤ n) (hm : 1 ≤ m) {d : Int} (h : ∀ i : Nat, i < n + m - Nat.gcd n m → hold n b (d + i) = hold m c (d + i)) :
    (∀ e, hold n b e = hold n b (d + (e - d) % ((Nat.gcd n m : Nat) : Int))) ∧ (∀ e, hold m c e = hold n b (d + (e - d) % ((Nat.gcd n m : Nat) : Int))) := by
  have hg : 0 < Nat.gcd n m := Nat.gcd_pos_of_pos_left _ hn
  have hgn : Nat.gcd n m ≤ n := Nat.le_of_dvd hn (Nat.gcd_dvd_left n m)
  have hgm : Nat.gcd n m ≤ m := Nat.le_of_dvd hm (Nat.gcd_dvd_right n m)
  have pn : ∀ x : Int, hold n b (x + n) = hold n b x := fun x => per_size x
  have pm : ∀ x : Int, hold m c (x + m) = hold m c x := fun x => per_size x
  have F := fine_wilf (n + m) n m (n + m - Nat.gcd n m) (fun i => hold n b (d + i)) (Nat.le_refl _) hn hm (by omega)
    (fun i hi => by show hold n b (d + ((i + n : Nat) : Int)) = _; rw [show d + ((i + n : Nat) : Int) = d + i + n by omega, pn])
    (fun i hi => by
      show hold n b (d + ((i + m : Nat) : Int)) = hold n b (d + i)
      rw [h (i + m) hi, h i (by omega), show d + ((i + m : Nat) : Int) = d + i + m by omega, pm])
  have nat_mod : ∀ (x : Int) (k : Nat), 0 < k → (((x % (k : Int)).toNat : Nat) : Int) = x % (k : Int) := fun x k hk => by
    have := Int.emod_nonneg x (show (k : Int) ≠ 0 by omega); omega
  have key : ∀ (x : Int) (k : Nat), 0 < k → Nat.gcd n m ∣ k → (((x % (k : Int)).toNat % Nat.gcd n m : Nat) : Int) = x % ((Nat.gcd n m : Nat) : Int) := fun x k hk hd => by
    rw [Int.natCast_emod, nat_mod x k hk, Int.emod_emod_of_dvd _ (Int.natCast_dvd_natCast.mpr hd)]
  refine ⟨fun e => ?_, fun e => ?_⟩
  · have h1 := Int.emod_lt_of_pos (e - d) (show (0 : Int) < n by omega)
    have h2 := F ((e - d) % (n : Int)).toNat (by have := nat_mod (e - d) n hn; omega)
    have h3 : hold n b e = hold n b (d + (e - d) % (n : Int)) := hold_eq (by rw [Int.add_emod_emod, show d + (e - d) = e by omega])
    have h4 : hold n b (d + (((e - d) % (n : Int)).toNat : Nat)) = hold n b (d + ((((e - d) % (n : Int)).toNat % Nat.gcd n m : Nat) : Int)) := h2
    rw [nat_mod _ _ hn, key _ _ hn (Nat.gcd_dvd_left n m)] at h4
    rw [h3, h4]
  · have h1 := Int.emod_lt_of_pos (e - d) (show (0 : Int) < m by omega)
    have hlt : ((e - d) % (m : Int)).toNat < n + m - Nat.gcd n m := by have := nat_mod (e - d) m hm; omega
    have h2 := F ((e - d) % (m : Int)).toNat hlt
    have h3 : hold m c e = hold m c (d + (e - d) % (m : Int)) := hold_eq (by rw [Int.add_emod_emod, show d + (e - d) = e by omega])
    have h5 := h _ hlt
    have h4 : hold n b (d + (((e - d) % (m : Int)).toNat : Nat)) = hold n b (d + ((((e - d) % (m : Int)).toNat % Nat.gcd n m : Nat) : Int)) := h2
    rw [h5, nat_mod _ _ hm, key _ _ hm (Nat.gcd_dvd_right n m)] at h4
    rw [h3, h4]

/-! ### the walker: one step, by the head of the reading -/
local macro_rules | `(tactic| walk_at "hp") => `(tactic| first | assumption | (refine' same_t ?h1 ?h2; (case h1 => assumption); (case h2 => walk_at "hp")) | (refine' same_l ?h1 ?h2; (case h1 => assumption); (case h2 => walk_at "hp")) | (refine' same_at ?h1 ?h2; (case h1 => assumption); (case h2 => walk_at "hp")) | fail)
local macro_rules | `(tactic| walk_at "hl") => `(tactic| first | walk_at "hp" | (refine' SqL.of ?h1; (case h1 => walk_at "hp")) | fail)
local macro_rules | `(tactic| walk_at "ht") => `(tactic| first | walk_at "hp" | (refine' SqT.of ?h1; (case h1 => walk_at "hp")) | fail)
local macro_rules | `(tactic| walk_at "sm") => `(tactic| first | assumption | (refine' sm_lit ?h1; (case h1 => decide +kernel)) | exact sm41 (by omega) (by omega) | walk_at "smx" | (refine' sm_mul ?h1 ?h2; (case h1 => walk_at "sm"); (case h2 => walk_at "sm")) | fail)
local macro_rules | `(tactic| walk_at "sd") => `(tactic| first
  | omega
  | decide +kernel
  | ((with_reducible apply Int.emod_nonneg); omega)
  | ((with_reducible refine sm_divx (b := 200) ?_ ?_ (by decide) (by decide)) <;> first | omega | walk_at "sm")
  | ((with_reducible refine sm_div (b := 200) ?_ ?_ (by decide) (by decide)) <;> first | omega | walk_at "sm")
  | walk_at "sdx"
  | ((with_reducible refine' sm_mulx ?h1 ?h2 ?h3); (case h1 => walk_at "sm"); (case h2 => walk_at "sm"); (case h3 => decide +kernel)) | fail)
local macro_rules | `(tactic| walk_at "st") => `(tactic| first
  | (with_reducible apply k_seqA)
  | (with_reducible apply k_seqD)
  | (with_reducible apply k_seqP)
  | ((with_reducible apply k_var); (· rfl))
  | (with_reducible apply k_c)
  | (with_reducible apply k_op)
  | (with_reducible apply k_add)
  | (with_reducible apply k_I0)
  | (with_reducible apply k_asg)
  | (with_reducible apply k_call)
  | (with_reducible apply k_cb)
  | (with_reducible apply k_cons)
  | (with_reducible apply k_nil)
  | (with_reducible apply k_ret)
  | (with_reducible apply k_test)
  | (with_reducible apply k_eq)
  | (with_reducible apply k_ne)
  | (with_reducible apply k_bl)
  | ((with_reducible apply k_I); (· walk_at "sd"))
  | (with_reducible apply k_U)
  | (with_reducible apply k_un)
  | ((with_reducible apply k_ixT); (· walk_at "ht"); (· rfl))
  | ((with_reducible apply k_ixL); (· walk_at "hl"); (· rfl))
  | (with_reducible apply k_tup)
  | ((with_reducible apply k_newtup); (· exact Nat.le_of_ble_eq_true rfl); intro p H' hn hs ht)
  | (with_reducible apply k_lst)
  | ((with_reducible apply k_newlst); (· exact Nat.le_of_ble_eq_true rfl); intro p H' hn hs ht)
  | (with_reducible apply k_B)
  | (with_reducible apply k_and)
  | (with_reducible apply k_or)
  | (with_reducible apply k_not)
  | ((with_reducible apply k_and2); (· rfl); (· rfl))
  | ((with_reducible apply k_or2); (· rfl); (· rfl))
  | ((with_reducible apply k_andn2); (· rfl); (· rfl))
  | (with_reducible apply k_andV)
  | (with_reducible apply k_orV)
  | (with_reducible apply k_notV)
  | (with_reducible apply k_chain)
  | (with_reducible apply k_eqb)
  | (with_reducible apply k_neb)
  | (with_reducible apply k_eqs)
  | (with_reducible apply k_nes)
  | (with_reducible apply k_drop)
  | (with_reducible apply k_next)
  | (with_reducible apply if_t)
  | (with_reducible apply if_f)
  | (with_reducible apply if_nt)
  | (with_reducible apply if_nf)
  | (with_reducible apply k_isi_ii)
  | (with_reducible apply k_isi_ib)
  | (with_reducible apply k_isi_bb)
  | (with_reducible apply k_isi_it)
  | ((with_reducible apply k_isi_tt); (· walk_at "ht"))
  | (with_reducible apply k_abs)
  | ((with_reducible apply k_max2); intro k hk1 hk2 hk3)
  | ((with_reducible apply k_min2); intro k hk1 hk2 hk3)
  | ((with_reducible apply k_lenT); (· walk_at "ht"))
  | ((with_reducible apply k_lenL); (· walk_at "hl"))
  | (with_reducible apply k_intI)
  | (with_reducible apply k_intB)
  | (with_reducible apply k_par)
  | (with_reducible apply k_par2)
  | (with_reducible apply k_ifx)
  | (with_reducible apply k_gname)
  | (with_reducible apply k_asgG)
  | (with_reducible apply k_retN)
  | (with_reducible apply k_lstrg)
  | ((with_reducible apply k_lstrgV); (· omega); intro p H' hn hs ht)
  | (with_reducible apply k_bits)
  | (with_reducible apply k_bitsV)
  | (with_reducible apply k_isN_n)
  | (with_reducible apply k_isN_i)
  | (with_reducible apply k_isN_r)
  | (with_reducible apply k_notN_n)
  | (with_reducible apply k_notN_i)
  | (with_reducible apply k_notN_r)
  | (with_reducible apply k_lc)
  | (with_reducible apply k_itup)
  | (with_reducible apply k_ilst)
  | ((with_reducible apply k_sqt); (· walk_at "ht"))
  | ((with_reducible apply k_sql); (· walk_at "hl"))
  | (with_reducible apply k_irng1)
  | ((with_reducible apply k_rng1); (· first | decide | omega))
  | (with_reducible apply k_irng2L)
  | (with_reducible apply k_rng2L)
  | (with_reducible apply k_irng2)
  | (with_reducible apply k_irng3)
  | ((with_reducible apply k_rng2); (· first | decide | omega))
  | ((with_reducible apply k_gtup); (· walk_at "ht"); (· rfl))
  | (with_reducible apply k_gcons)
  | (with_reducible apply k_gnil)
  | ((with_reducible apply k_notin2); (· walk_at "hl"))
  | ((with_reducible apply k_in2); (· walk_at "hl"))
  | ((with_reducible apply k_in3); (· walk_at "hl"))
  | ((with_reducible apply k_notinL); (· walk_at "hl"))
  | ((with_reducible apply k_inL'); (· walk_at "hl"))
  | ((with_reducible apply k_divmod); (· walk_at "sd"); intro p H' hn hs ht) | fail)
local macro_rules | `(tactic| walk_at "go") => `(tactic| repeat' walk_at "st")
/-- a branch: both ways, those that cannot be shut by omega -/
local macro_rules | `(tactic| walk_at "br") => `(tactic| (first | with_reducible apply if_dec | with_reducible apply if_ndec | with_reducible apply if_b) <;> intro hbr <;> first | (first | exact absurd (by assumption) hbr | exact absurd hbr (by assumption) | (exfalso; omega) | (exfalso; simp only [List.length_cons, List.length_nil] at hbr; omega)) | skip)
/-- an if statement: its test walked, the ways that can be -/
local macro_rules | `(tactic| walk_at "if") => `(tactic| ((first | with_reducible apply k_seqI | with_reducible apply k_if); walk_at "go"; walk_at "br"))
/-- a branch of which omega shuts one way -/
local macro_rules | `(tactic| walk_at "br1") => `(tactic| first
  | (with_reducible apply if_dec; (· (intro hbr; first | exact absurd (by assumption) hbr | exact absurd hbr (by assumption) | (exfalso; omega) | (exfalso; simp only [List.length_cons, List.length_nil] at hbr; omega))); intro hbr)
  | (with_reducible apply if_dec; rotate_left; (· (intro hbr; first | exact absurd (by assumption) hbr | exact absurd hbr (by assumption) | (exfalso; omega) | (exfalso; simp only [List.length_cons, List.length_nil] at hbr; omega))); intro hbr)
  | (with_reducible apply if_ndec; (· (intro hbr; first | exact absurd (by assumption) hbr | exact absurd hbr (by assumption) | (exfalso; omega) | (exfalso; simp only [List.length_cons, List.length_nil] at hbr; omega))); intro hbr)
  | (with_reducible apply if_ndec; rotate_left; (· (intro hbr; first | exact absurd (by assumption) hbr | exact absurd hbr (by assumption) | (exfalso; omega) | (exfalso; simp only [List.length_cons, List.length_nil] at hbr; omega))); intro hbr) | fail)
local macro_rules | `(tactic| walk_at "run") => `(tactic| repeat' (first | walk_at "st" | walk_at "br1" | with_reducible apply k_seqI | with_reducible apply k_if))
local macro_rules | `(tactic| walk_at "all") => `(tactic| repeat' (first | walk_at "st" | walk_at "br1" | walk_at "br" | with_reducible apply k_seqI | with_reducible apply k_if))
local macro_rules | `(tactic| walk_at "st") => `(tactic| first
  | ((with_reducible apply k_eqP); (· walk_at "ht"); (· walk_at "ht"))
  | ((with_reducible apply k_neP); (· walk_at "ht"); (· walk_at "ht")) | fail)
local macro_rules | `(tactic| walk_at "st") => `(tactic| first
  | ((with_reducible apply if_seq); (· rfl))
  | ((with_reducible apply if_nseq); (· rfl))
  | ((with_reducible apply if_sne); (· decide +kernel))
  | ((with_reducible apply if_nsne); (· decide +kernel)) | fail)

local macro_rules | `(tactic| walk_at "smx") => `(tactic| first | exact sm_ofB (by omega) | exact sm_bitsOf (by omega) | exact sm_mask (by omega) | (refine' sm_modp ?h1; (case h1 => walk_at "sm")) | (refine' sm_divp ?h1; (case h1 => walk_at "sm")) | (refine' sm_shl ?h1 ?h2; (case h1 => walk_at "sm"); (case h2 => omega)) | (refine' sm_or ?h1 ?h2; (case h1 => walk_at "sm"); (case h2 => walk_at "sm")) | (refine' sm_xor ?h1 ?h2; (case h1 => walk_at "sm"); (case h2 => walk_at "sm")) | (refine' sm_and ?h1; (case h1 => walk_at "sm")) | fail)
local macro_rules | `(tactic| walk_at "sdx") => `(tactic| first | (with_reducible exact pow_pos_c _) | ((with_reducible refine' cshl ?h1 ?h2 ?h3 ?h4); (case h1 => walk_at "sm"); (case h2 => omega); (case h3 => omega); (case h4 => decide +kernel)) | fail)
local macro_rules | `(tactic| walk_at "st") => `(tactic| first
  | (with_reducible apply k_andm)
  | (with_reducible apply k_andc)
  | (with_reducible apply k_orc)
  | (with_reducible apply k_xorm)
  | (with_reducible apply k_xorc)
  | ((with_reducible apply k_shl1); (· first | omega | exact modbd (by omega) (by omega)))
  | ((with_reducible apply k_shlc); (· exact cshl (by walk_at "sm") (by omega) (by omega) (by decide +kernel)))
  | ((with_reducible apply k_shrc); (· first | omega | exact Int.emod_nonneg _ (by omega))) | fail)
local macro_rules | `(tactic| walk_at "hr") => `(tactic| first | assumption | (refine' RT.mono ?h1 ?h2; (case h2 => assumption); (case h1 => walk_at "hr")) | fail)
local macro_rules | `(tactic| walk_at "lround") => `(tactic| (walk_at "go"))

local macro_rules | `(tactic| walk_at "st") => `(tactic| first
  | (with_reducible apply k_bm)
  | ((with_reducible apply k_bmA); (· walk_at "hl"))
  | ((with_reducible apply k_app); (· walk_at "hp"); (· first | assumption | decide | omega | (simp; omega)); intro H' hm hh)
  | (with_reducible apply k_sl)
  | (with_reducible apply k_part)
  | (with_reducible apply k_partV)
  | (with_reducible apply k_nopart)
  | ((with_reducible apply k_slV); (· walk_at "hl"); intro p H' hn hs ht)
  | ((with_reducible apply k_lofL); (· walk_at "hl"); intro p H' hn hs ht)
  | (with_reducible apply k_gsub)
  | ((with_reducible apply k_eqE); (· walk_at "hl"); (· walk_at "hl"))
  | ((with_reducible apply k_neE); (· walk_at "hl"); (· walk_at "hl")) | fail)

def topS (i : Nat) : Stmt := PySem.Challenge.pw_feastwheel_k51_the_same_for_ever.main.body.getD i (.Pass ⟨0, 0, 0, 0⟩)
abbrev s_Lcell_at : Stmt := topS 20
theorem sc_Lcell_at : FnScope ["_law_script", "_law_k"] ["_law_script", "_law_k"] (defScope s_Lcell_at) := ⟨rfl, rfl, rfl, by decide +kernel, rfl, by decide +kernel, by decide +kernel⟩
abbrev s_Llaid : Stmt := topS 23
theorem sc_Llaid : FnScope ["_law_bits_here", "_law_size", "_law_times"] ["_law_bits_here", "_law_size", "_law_times"] (defScope s_Llaid) := ⟨rfl, rfl, rfl, by decide +kernel, rfl, by decide +kernel, by decide +kernel⟩
abbrev s_Lbits : Stmt := topS 22
theorem sc_Lbits : FnScope ["_law_cell", "_law_size"] ["_law_cell", "_law_size"] (defScope s_Lbits) := ⟨rfl, rfl, rfl, by decide +kernel, rfl, by decide +kernel, by decide +kernel⟩
abbrev s_Lpair : Stmt := topS 24
theorem sc_Lpair : FnScope ["_law_script", "_law_way", "_law_a", "_law_b", "_law_small", "_law_first", "_law_second", "_law_one", "_law_other"] ["_law_script"] (defScope s_Lpair) := ⟨rfl, rfl, rfl, by decide +kernel, rfl, by decide +kernel, by decide +kernel⟩
abbrev s_divisor : Stmt := topS 5
theorem sc_divisor : FnScope ["one", "other"] ["one", "other"] (defScope s_divisor) := ⟨rfl, rfl, rfl, by decide +kernel, rfl, by decide +kernel, by decide +kernel⟩
abbrev s_mask : Stmt := topS 9
theorem sc_mask : FnScope ["size"] ["size"] (defScope s_mask) := ⟨rfl, rfl, rfl, by decide +kernel, rfl, by decide +kernel, by decide +kernel⟩
abbrev s_cut_to : Stmt := topS 11
theorem sc_cut_to : FnScope ["turn", "size"] ["turn", "size"] (defScope s_cut_to) := ⟨rfl, rfl, rfl, by decide +kernel, rfl, by decide +kernel, by decide +kernel⟩
abbrev s_allowed : Stmt := topS 8
theorem sc_allowed : FnScope ["size"] ["size"] (defScope s_allowed) := ⟨rfl, rfl, rfl, by decide +kernel, rfl, by decide +kernel, by decide +kernel⟩
abbrev s_stretched : Stmt := topS 10
theorem sc_stretched : FnScope ["turn", "size", "bits", "have", "more"] ["turn", "size"] (defScope s_stretched) := ⟨rfl, rfl, rfl, by decide +kernel, rfl, by decide +kernel, by decide +kernel⟩
abbrev s_alike_by : Stmt := topS 16
theorem sc_alike_by : FnScope ["small", "one", "other"] ["small", "one", "other"] (defScope s_alike_by) := ⟨rfl, rfl, rfl, by decide +kernel, rfl, by decide +kernel, by decide +kernel⟩
abbrev s_later : Stmt := topS 14
theorem sc_later : FnScope ["turn", "number", "size", "shift"] ["turn", "number"] (defScope s_later) := ⟨rfl, rfl, rfl, by decide +kernel, rfl, by decide +kernel, by decide +kernel⟩
abbrev s_row_from : Stmt := topS 17
theorem sc_row_from : FnScope ["turn", "day", "many", "bits", "have"] ["turn", "day", "many"] (defScope s_row_from) := ⟨rfl, rfl, rfl, by decide +kernel, rfl, by decide +kernel, by decide +kernel⟩
abbrev s_shrunk : Stmt := topS 12
theorem sc_shrunk : FnScope ["turn", "part", "small"] ["turn", "part"] (defScope s_shrunk) := ⟨rfl, rfl, rfl, by decide +kernel, rfl, by decide +kernel, by decide +kernel⟩
abbrev s_least : Stmt := topS 13
theorem sc_least : FnScope ["turn", "rest", "part"] ["turn"] (defScope s_least) := ⟨rfl, rfl, rfl, by decide +kernel, rfl, by decide +kernel, by decide +kernel⟩
abbrev s_same : Stmt := topS 18
theorem sc_same : FnScope ["one", "other", "day", "shared", "small", "many", "apart"] ["one", "other", "day"] (defScope s_same) := ⟨rfl, rfl, rfl, by decide +kernel, rfl, by decide +kernel, by decide +kernel⟩
abbrev s_Lon : Stmt := topS 25
theorem sc_Lon : FnScope ["_law_turn", "_law_day"] ["_law_turn", "_law_day"] (defScope s_Lon) := ⟨rfl, rfl, rfl, by decide +kernel, rfl, by decide +kernel, by decide +kernel⟩
abbrev s_Lleast : Stmt := topS 26
theorem sc_Lleast : FnScope ["_law_turn", "_law_size", "_law_k"] ["_law_turn"] (defScope s_Lleast) := ⟨rfl, rfl, rfl, by decide +kernel, rfl, by decide +kernel, by decide +kernel⟩
abbrev s_Lwhole : Stmt := topS 21
theorem sc_Lwhole : FnScope ["_law_found"] ["_law_found"] (defScope s_Lwhole) := ⟨rfl, rfl, rfl, by decide +kernel, rfl, by decide +kernel, by decide +kernel⟩
abbrev s_Lround_of : Stmt := topS 27
theorem sc_Lround_of : FnScope ["_law_found"] ["_law_found"] (defScope s_Lround_of) := ⟨rfl, rfl, rfl, by decide +kernel, rfl, by decide +kernel, by decide +kernel⟩
abbrev s_law : Stmt := topS 28
theorem sc_law : FnScope ["_law_script", "_law_one", "_law_other", "_law_day", "_law_found", "_law_turn", "_law_far"] ["_law_script"] (defScope s_law) := ⟨rfl, rfl, rfl, by decide +kernel, rfl, by decide +kernel, by decide +kernel⟩
structure Txt (K : PySem.W.Frag) (mg : Str → Option Value) where
  a_Lcell_at : Addr
  fd_Lcell_at : FuncData
  F_Lcell_at : Fun K "_law_cell_at" "_law_cell_at" s_Lcell_at a_Lcell_at fd_Lcell_at
  g_Lcell_at : mg "_law_cell_at" = some (.ref a_Lcell_at)
  b_Lcell_at : Binds K fd_Lcell_at ["_law_script", "_law_k"] []
  a_Llaid : Addr
  fd_Llaid : FuncData
  F_Llaid : Fun K "_law_laid" "_law_laid" s_Llaid a_Llaid fd_Llaid
  g_Llaid : mg "_law_laid" = some (.ref a_Llaid)
  b_Llaid : Binds K fd_Llaid ["_law_bits_here", "_law_size", "_law_times"] []
  a_Lbits : Addr
  fd_Lbits : FuncData
  F_Lbits : Fun K "_law_bits" "_law_bits" s_Lbits a_Lbits fd_Lbits
  g_Lbits : mg "_law_bits" = some (.ref a_Lbits)
  b_Lbits : Binds K fd_Lbits ["_law_cell", "_law_size"] []
  a_Lpair : Addr
  fd_Lpair : FuncData
  F_Lpair : Fun K "_law_pair" "_law_pair" s_Lpair a_Lpair fd_Lpair
  g_Lpair : mg "_law_pair" = some (.ref a_Lpair)
  b_Lpair : Binds K fd_Lpair ["_law_script"] []
  a_divisor : Addr
  fd_divisor : FuncData
  F_divisor : Fun K "divisor" "divisor" s_divisor a_divisor fd_divisor
  g_divisor : mg "divisor" = some (.ref a_divisor)
  b_divisor : Binds K fd_divisor ["one", "other"] []
  a_mask : Addr
  fd_mask : FuncData
  F_mask : Fun K "mask" "mask" s_mask a_mask fd_mask
  g_mask : mg "mask" = some (.ref a_mask)
  b_mask : Binds K fd_mask ["size"] []
  a_cut_to : Addr
  fd_cut_to : FuncData
  F_cut_to : Fun K "cut_to" "cut_to" s_cut_to a_cut_to fd_cut_to
  g_cut_to : mg "cut_to" = some (.ref a_cut_to)
  b_cut_to : Binds K fd_cut_to ["turn", "size"] []
  a_allowed : Addr
  fd_allowed : FuncData
  F_allowed : Fun K "allowed" "allowed" s_allowed a_allowed fd_allowed
  g_allowed : mg "allowed" = some (.ref a_allowed)
  b_allowed : Binds K fd_allowed ["size"] []
  a_stretched : Addr
  fd_stretched : FuncData
  F_stretched : Fun K "stretched" "stretched" s_stretched a_stretched fd_stretched
  g_stretched : mg "stretched" = some (.ref a_stretched)
  b_stretched : Binds K fd_stretched ["turn", "size"] []
  a_alike_by : Addr
  fd_alike_by : FuncData
  F_alike_by : Fun K "alike_by" "alike_by" s_alike_by a_alike_by fd_alike_by
  g_alike_by : mg "alike_by" = some (.ref a_alike_by)
  b_alike_by : Binds K fd_alike_by ["small", "one", "other"] []
  a_later : Addr
  fd_later : FuncData
  F_later : Fun K "later" "later" s_later a_later fd_later
  g_later : mg "later" = some (.ref a_later)
  b_later : Binds K fd_later ["turn", "number"] []
  a_row_from : Addr
  fd_row_from : FuncData
  F_row_from : Fun K "row_from" "row_from" s_row_from a_row_from fd_row_from
  g_row_from : mg "row_from" = some (.ref a_row_from)
  b_row_from : Binds K fd_row_from ["turn", "day", "many"] []
  a_shrunk : Addr
  fd_shrunk : FuncData
  F_shrunk : Fun K "shrunk" "shrunk" s_shrunk a_shrunk fd_shrunk
  g_shrunk : mg "shrunk" = some (.ref a_shrunk)
  b_shrunk : Binds K fd_shrunk ["turn", "part"] []
  a_least : Addr
  fd_least : FuncData
  F_least : Fun K "least" "least" s_least a_least fd_least
  g_least : mg "least" = some (.ref a_least)
  b_least : Binds K fd_least ["turn"] []
  a_same : Addr
  fd_same : FuncData
  F_same : Fun K "same" "same" s_same a_same fd_same
  g_same : mg "same" = some (.ref a_same)
  b_same : Binds K fd_same ["one", "other", "day"] []
  a_Lon : Addr
  fd_Lon : FuncData
  F_Lon : Fun K "_law_on" "_law_on" s_Lon a_Lon fd_Lon
  g_Lon : mg "_law_on" = some (.ref a_Lon)
  b_Lon : Binds K fd_Lon ["_law_turn", "_law_day"] []
  a_Lleast : Addr
  fd_Lleast : FuncData
  F_Lleast : Fun K "_law_least" "_law_least" s_Lleast a_Lleast fd_Lleast
  g_Lleast : mg "_law_least" = some (.ref a_Lleast)
  b_Lleast : Binds K fd_Lleast ["_law_turn"] []
  a_Lwhole : Addr
  fd_Lwhole : FuncData
  F_Lwhole : Fun K "_law_whole" "_law_whole" s_Lwhole a_Lwhole fd_Lwhole
  g_Lwhole : mg "_law_whole" = some (.ref a_Lwhole)
  b_Lwhole : Binds K fd_Lwhole ["_law_found"] []
  a_Lround_of : Addr
  fd_Lround_of : FuncData
  F_Lround_of : Fun K "_law_round_of" "_law_round_of" s_Lround_of a_Lround_of fd_Lround_of
  g_Lround_of : mg "_law_round_of" = some (.ref a_Lround_of)
  b_Lround_of : Binds K fd_Lround_of ["_law_found"] []
  a_law : Addr
  fd_law : FuncData
  F_law : Fun K "law" "law" s_law a_law fd_law
  g_law : mg "law" = some (.ref a_law)
  b_law : Binds K fd_law ["_law_script"] []
  t_LIMIT : Tok
  c_LIMIT : mg "LIMIT" = some (.int 150000 t_LIMIT)
  n_abs : mg "abs" = none
  n_bool : mg "bool" = none
  n_int : mg "int" = none
  n_isinstance : mg "isinstance" = none
  n_len : mg "len" = none
  n_min : mg "min" = none
  n_range : mg "range" = none
  n_tuple : mg "tuple" = none
section
variable {P : Program} {w : World} {K : PySem.W.Frag} {mg : Str → Option Value} {base : Heap}
/-! ### _law_cell_at -/
/-- a cell of the script; nought behind its end -/
def sp_Lcell_at (K : PySem.W.Frag) : Sp := fun vs H Q _ => ∃ (a : Addr) (ns : List Int) (k : Int), vs = [.ref a, .int k] ∧ SqL K H a (ns.map V.int) ∧ 0 ≤ k ∧ Q (.int (ns.getD k.toNat 0)) H
theorem ok_Lcell_at (T : Txt K mg) : FnOk P w K mg base CX0 1 T.a_Lcell_at T.fd_Lcell_at ["_law_script", "_law_k"] (sp_Lcell_at K) := by
  refine T.F_Lcell_at.ok sc_Lcell_at (fun vs H Q E h => ?_) (fun cdv A outer s H vs Q E hr h => ?_)
  · obtain ⟨_, _, _, rfl, _⟩ := h; rfl
  · obtain ⟨a, ns, k, rfl, hS, h0, q⟩ := h
    refine ⟨_, (pss_cons (ps_if (pt_cmpR op_lt (pv 1) (pe_callB (kb_len K) (by rfl) T.n_len (by decide +kernel) (pa_cons (pv 0) pa_nil)) (nomark _)) (pss_one (ps_ret (pe_ix (kb_ix K) (pv 0) (pv 1) (fun _ _ => rfl)))) pss_nil)
        (pss_one (ps_ret pe_int))), ?_⟩
    apply k_seqI; walk_at "go"
    refine if_dec (fun hk => ?_) (fun hk => ?_)
    · walk_at "go"
      rw [List.length_map] at hk
      have e : ((ns.map V.int)[k.toNat]?) = some (V.int (ns.getD k.toNat 0)) := by
        rw [List.getElem?_map, List.getElem?_eq_getElem (show k.toNat < ns.length by omega), List.getD_eq_getElem?_getD, List.getElem?_eq_getElem (show k.toNat < ns.length by omega)]
        rfl
      exact k_ixL hS (at_of (show k = ((k.toNat : Nat) : Int) by omega) e) q
    · walk_at "go"
      rw [List.length_map] at hk
      have e : ns.getD k.toNat 0 = 0 := by
        rw [List.getD_eq_getElem?_getD, List.getElem?_eq_none (by omega)]; rfl
      rw [e] at q
      exact q
theorem sm_getD {ns : List Int} {n : Nat} (hb : ∀ z ∈ ns, Builtin.Int.intBits z ≤ n) (k : Nat) : Sm n (ns.getD k 0) := by
  rw [List.getD_eq_getElem?_getD]
  by_cases h : k < ns.length
  · rw [List.getElem?_eq_getElem h]; exact sm_bits (hb _ (List.getElem_mem h))
  · rw [List.getElem?_eq_none (by omega)]; exact ⟨Nat.pow_pos (by decide)⟩
theorem k_cell {H : Hp} {Q : VK} {E : XK} {a : Addr} {ns : List Int} {k : Int} (hb : ∀ z ∈ ns, Builtin.Int.intBits z ≤ 1048576) (hS : SqL K H a (ns.map V.int)) (h0 : 0 ≤ k)
    (q : ∀ c, c = ns.getD k.toNat 0 → Sm 1048576 c → Q (.int c) H) : sp_Lcell_at K [.ref a, .int k] H Q E := ⟨a, ns, k, rfl, hS, h0, q _ rfl (sm_getD hb _)⟩
local macro_rules | `(tactic| walk_at "st") => `(tactic| first | ((with_reducible apply k_cell); (· assumption); (· walk_at "hp"); (· first | decide | omega); intro c hc hm) | fail)

/-! ### _law_laid -/
def sp_Llaid (K : PySem.W.Frag) : Sp := fun vs H Q _ => ∃ (b s t : Nat), vs = [.int (b : Int), .int (s : Int), .int (t : Int)] ∧ b < 2 ^ s ∧ 1 ≤ s ∧ s ≤ 60 ∧ 1 ≤ t ∧ t ≤ 500 ∧
  ∀ (p : Addr) (H' : Hp) (x : Nat), Same H H' → RT K H' p (s * t) x → Q (.ref p) H'
theorem laid_lt {b X Y : Nat} (hb : b < X) (hX : 2 ≤ X) (hY : 1 ≤ Y) : b * ((Y - 1) / (X - 1)) < Y := by
  have h1 : b * ((Y - 1) / (X - 1)) ≤ (X - 1) * ((Y - 1) / (X - 1)) := Nat.mul_le_mul_right _ (by omega)
  have h2 := Nat.mul_div_le (Y - 1) (X - 1)
  omega
theorem ok_Llaid (T : Txt K mg) : FnOk P w K mg base CX0 1 T.a_Llaid T.fd_Llaid ["_law_bits_here", "_law_size", "_law_times"] (sp_Llaid K) := by
  refine T.F_Llaid.ok sc_Llaid (fun vs H Q E h => ?_) (fun cdv A outer s H vs Q E hr h => ?_)
  · obtain ⟨_, _, _, rfl, _⟩ := h; rfl
  · obtain ⟨b, s, t, rfl, hb, hs, hs2, ht, ht2, q⟩ := h
    have hu := hr.units
    have hst : 1 ≤ s * t := Nat.mul_pos hs ht
    have hst2 : s * t ≤ 30000 := Nat.mul_le_mul hs2 ht2
    have ec : (s : Int) * (t : Int) = ((s * t : Nat) : Int) := (Int.natCast_mul s t).symm
    have hX2 : 2 ≤ 2 ^ s := by
      have := Nat.pow_le_pow_right (n := 2) (by decide) hs
      exact this
    have hXs : 2 ^ s ≤ 2 ^ 60 := Nat.pow_le_pow_right (by decide) hs2
    have hY1 := Nat.two_pow_pos (s * t)
    refine ⟨_, (pss_one (ps_ret (pe_tup (pa_cons (pe_op op_mulX (pv 1) (pv 2)) (pa_cons (pe_op op_mulX (pv 0) (pe_op op_fdivW (pe_op op_sub (pe_op op_shlW pe_int (pe_op op_mulX (pv 1) (pv 2))) pe_int) (pe_op op_sub (pe_op op_shlW pe_int (pv 1)) pe_int))) pa_nil))))), ?_⟩
    walk_at "go"
    rw [ec]
    obtain ⟨N, hN⟩ : ∃ N, N = s * t := ⟨_, rfl⟩
    rw [← hN] at ec hst hst2 hY1 q ⊢
    walk_at "go"
    rw [mask_nat, mask_nat]
    refine k_I (sm_div (b := 200) (by omega) (sm_mono (sm_nat (show 2 ^ s - 1 < 2 ^ 60 by omega)) (by decide)) (by decide) (by decide)) ?_
    rw [show ((2 ^ N - 1 : Nat) : Int) / ((2 ^ s - 1 : Nat) : Int) = (((2 ^ N - 1) / (2 ^ s - 1) : Nat) : Int) from (Int.natCast_ediv _ _).symm]
    have hdl : (2 ^ N - 1) / (2 ^ s - 1) < 2 ^ N := Nat.lt_of_le_of_lt (Nat.div_le_self _ _) (by omega)
    refine k_I (sm_mulx (sm_nat hb) (sm_nat hdl) (by omega)) ?_
    rw [show (b : Int) * (((2 ^ N - 1) / (2 ^ s - 1) : Nat) : Int) = ((b * ((2 ^ N - 1) / (2 ^ s - 1)) : Nat) : Int) from (Int.natCast_mul _ _).symm]
    walk_at "go"
    rename_i p H1 _ s1 t1
    exact q p H1 _ s1 ⟨SqT.of t1, hst, by omega, laid_lt hb hX2 hY1⟩
theorem k_Llaid {K : PySem.W.Frag} {H : Hp} {Q : VK} {E : XK} {b s t : Nat} (hb : b < 2 ^ s) (hs : 1 ≤ s) (hs2 : s ≤ 60) (ht : 1 ≤ t) (ht2 : t ≤ 500)
    (q : ∀ (p : Addr) (H' : Hp) (x : Nat), Same H H' → RT K H' p (s * t) x → Q (.ref p) H') : sp_Llaid K [.int (b : Int), .int (s : Int), .int (t : Int)] H Q E := ⟨b, s, t, rfl, hb, hs, hs2, ht, ht2, q⟩

/-! ### _law_bits -/
def sp_Lbits (K : PySem.W.Frag) : Sp := fun vs H Q _ => ∃ (c : Int) (n : Nat), vs = [.int c, .int (n : Int)] ∧ Sm 1048576 c ∧ 1 ≤ n ∧ n ≤ 150000 ∧ ∀ x : Nat, x < 2 ^ n → Q (.int (x : Int)) H
theorem ok_Lbits (T : Txt K mg) : FnOk P w K mg base CX0 1 T.a_Lbits T.fd_Lbits ["_law_cell", "_law_size"] (sp_Lbits K) := by
  refine T.F_Lbits.ok sc_Lbits (fun vs H Q E h => ?_) (fun cdv A outer s H vs Q E hr h => ?_)
  · obtain ⟨_, _, rfl, _⟩ := h; rfl
  · obtain ⟨c, n, rfl, sc, hn, hn2, q⟩ := h
    have hu := hr.units
    refine ⟨_, (pss_cons (ps_if (pt_cmpR (kb_eq K (hu := hu)) (pe_op op_mod (pv 0) pe_int) pe_int (nomark _)) (pss_one (ps_ret (pe_op op_or (pe_op op_shlW pe_int (pe_op op_mod (pe_op op_fdivW (pv 0) pe_int) (pv 1))) (pe_op op_shlW pe_int (pe_op op_mod (pe_op op_fdivW (pv 0) pe_int) (pv 1)))))) pss_nil)
        (pss_one (ps_ret (pe_op op_mod (pe_op op_mulX (pv 0) (pe_powc (n := 1000186017020021185187017498301999931368210861069942967769897960662137341254986862788509313856033089629489414641638335564212230864004005856873750931644946879886736270395937511720665836966363701307320410115052148956214249295769848007788025625581544184486170637839399556486353836146769451926932969318680028917694349630721226591509821157021206295756915723043787687204035898809) (by decide +kernel))) (pe_op op_shlW pe_int (pv 1)))))), ?_⟩
    with_reducible apply k_seqI
    walk_at "go"
    refine if_dec (fun _ => ?_) (fun _ => ?_)
    · walk_at "go"
      exact q _ (Nat.or_lt_two_pow (one_lt hn _) (one_lt hn _))
    · walk_at "go"
      refine k_I (sm_mulx sc (⟨by decide +kernel⟩ : Sm 1300 (1000186017020021185187017498301999931368210861069942967769897960662137341254986862788509313856033089629489414641638335564212230864004005856873750931644946879886736270395937511720665836966363701307320410115052148956214249295769848007788025625581544184486170637839399556486353836146769451926932969318680028917694349630721226591509821157021206295756915723043787687204035898809 : Int)) (by decide)) ?_
      walk_at "go"
      obtain ⟨x, hx, hxl⟩ := natmod (c * 1000186017020021185187017498301999931368210861069942967769897960662137341254986862788509313856033089629489414641638335564212230864004005856873750931644946879886736270395937511720665836966363701307320410115052148956214249295769848007788025625581544184486170637839399556486353836146769451926932969318680028917694349630721226591509821157021206295756915723043787687204035898809) n
      rw [hx]
      exact q x hxl
theorem k_Lbits {K : PySem.W.Frag} {H : Hp} {Q : VK} {E : XK} {c : Int} {n : Nat} (sc : Sm 1048576 c) (hn : 1 ≤ n) (hn2 : n ≤ 150000) (q : ∀ x : Nat, x < 2 ^ n → Q (.int (x : Int)) H) : sp_Lbits K [.int c, .int (n : Int)] H Q E := ⟨c, n, rfl, sc, hn, hn2, q⟩

/-! ### _law_pair -/
def sp_Lpair (K : PySem.W.Frag) : Sp := fun vs H Q _ => ∃ (a : Addr) (ns : List Int), vs = [.ref a] ∧ SqL K H a (ns.map V.int) ∧ (∀ z ∈ ns, Builtin.Int.intBits z ≤ 1048576) ∧
  ∀ (p p1 p2 : Addr) (H' : Hp) (n b m c : Nat), Same H H' → H' p = some (.tup [.ref p1, .ref p2]) → RT K H' p1 n b → RT K H' p2 m c → n ≤ 1300 → m ≤ 1300 → Q (.ref p) H'
theorem ok_Lpair (T : Txt K mg) : FnOk P w K mg base CX0 2 T.a_Lpair T.fd_Lpair ["_law_script"] (sp_Lpair K) := by
  refine T.F_Lpair.ok sc_Lpair (fun vs H Q E h => ?_) (fun cdv A outer s H vs Q E hr h => ?_)
  · obtain ⟨_, _, rfl, _⟩ := h; rfl
  · obtain ⟨a, ns, rfl, hS, hb, q⟩ := h
    have hu := hr.units
    refine ⟨_, (pss_cons (ps_set (i := 1) sc_Lpair.nd rfl (Or.inl rfl) (pe_op op_mod (pe_call (ok_Lcell_at T) (hr.mono (by decide)) (by rfl) T.g_Lcell_at T.F_Lcell_at.kp T.b_Lcell_at .nil pass0 (pa_cons (pv 0) (pa_cons pe_int pa_nil))) pe_int))
        (pss_cons (ps_set (i := 2) sc_Lpair.nd rfl (Or.inl rfl) (pe_call (ok_Lcell_at T) (hr.mono (by decide)) (by rfl) T.g_Lcell_at T.F_Lcell_at.kp T.b_Lcell_at .nil pass0 (pa_cons (pv 0) (pa_cons pe_int pa_nil))))
        (pss_cons (ps_set (i := 3) sc_Lpair.nd rfl (Or.inl rfl) (pe_call (ok_Lcell_at T) (hr.mono (by decide)) (by rfl) T.g_Lcell_at T.F_Lcell_at.kp T.b_Lcell_at .nil pass0 (pa_cons (pv 0) (pa_cons pe_int pa_nil))))
        (pss_cons (ps_set (i := 4) sc_Lpair.nd rfl (Or.inl rfl) (pe_op op_addA pe_int (pe_op op_mod (pv 2) pe_int)))
        (pss_cons (ps_set (i := 5) sc_Lpair.nd rfl (Or.inl rfl) (pe_op op_addA pe_int (pe_op op_mod (pe_op op_fdivW (pv 2) pe_int) pe_int)))
        (pss_cons (ps_set (i := 6) sc_Lpair.nd rfl (Or.inl rfl) (pe_op op_addA pe_int (pe_op op_mod (pe_op op_fdivW (pv 2) pe_int) pe_int)))
        (pss_cons (ps_if (pt_cmpR (kb_in K) (pv 1) (pe_lst (pa_cons pe_int (pa_cons pe_int (pa_cons pe_int pa_nil)))) (by rfl)) (pss_cons (ps_set (i := 4) sc_Lpair.nd rfl (Or.inl rfl) (pe_op op_addA pe_int (pe_op op_mod (pv 2) pe_int)))
        (pss_cons (ps_set (i := 5) sc_Lpair.nd rfl (Or.inl rfl) (pe_op op_addA pe_int (pe_op op_mod (pe_op op_fdivW (pv 2) pe_int) pe_int)))
        (pss_one (ps_set (i := 6) sc_Lpair.nd rfl (Or.inl rfl) (pe_op op_addA (pv 5) pe_int))))) pss_nil)
        (pss_cons (ps_set (i := 7) sc_Lpair.nd rfl (Or.inl rfl) (pe_call (ok_Llaid T) (hr.mono (by decide)) (by rfl) T.g_Llaid T.F_Llaid.kp T.b_Llaid .nil pass0 (pa_cons (pe_call (ok_Lbits T) (hr.mono (by decide)) (by rfl) T.g_Lbits T.F_Lbits.kp T.b_Lbits .nil pass0 (pa_cons (pv 3) (pa_cons (pv 4) pa_nil))) (pa_cons (pv 4) (pa_cons (pv 5) pa_nil)))))
        (pss_cons (ps_set (i := 8) sc_Lpair.nd rfl (Or.inl rfl) (pe_call (ok_Llaid T) (hr.mono (by decide)) (by rfl) T.g_Llaid T.F_Llaid.kp T.b_Llaid .nil pass0 (pa_cons (pe_call (ok_Lbits T) (hr.mono (by decide)) (by rfl) T.g_Lbits T.F_Lbits.kp T.b_Lbits .nil pass0 (pa_cons (pv 3) (pa_cons (pv 4) pa_nil))) (pa_cons (pv 4) (pa_cons (pv 6) pa_nil)))))
        (pss_cons (ps_if (pt_cmpR (kb_eq K (hu := hu)) (pv 1) pe_int (nomark _)) (pss_cons (ps_set (i := 7) sc_Lpair.nd rfl (Or.inl rfl) (pe_tup (pa_cons (pe_op op_addA pe_int (pe_op op_mod (pv 2) pe_int)) (pa_cons (pe_call (ok_Lbits T) (hr.mono (by decide)) (by rfl) T.g_Lbits T.F_Lbits.kp T.b_Lbits .nil pass0 (pa_cons (pv 3) (pa_cons (pe_op op_addA pe_int (pe_op op_mod (pv 2) pe_int)) pa_nil))) pa_nil))))
        (pss_one (ps_set (i := 8) sc_Lpair.nd rfl (Or.inl rfl) (pe_tup (pa_cons (pe_op op_addA pe_int (pe_op op_mod (pe_op op_fdivW (pv 2) pe_int) pe_int)) (pa_cons (pe_call (ok_Lbits T) (hr.mono (by decide)) (by rfl) T.g_Lbits T.F_Lbits.kp T.b_Lbits .nil pass0 (pa_cons (pe_call (ok_Lcell_at T) (hr.mono (by decide)) (by rfl) T.g_Lcell_at T.F_Lcell_at.kp T.b_Lcell_at .nil pass0 (pa_cons (pv 0) (pa_cons pe_int pa_nil))) (pa_cons (pe_op op_addA pe_int (pe_op op_mod (pe_op op_fdivW (pv 2) pe_int) pe_int)) pa_nil))) pa_nil)))))) pss_nil)
        (pss_cons (ps_if (pt_cmpR (kb_in K) (pv 1) (pe_lst (pa_cons pe_int (pa_cons pe_int pa_nil))) (by rfl)) (pss_one (ps_set (i := 8) sc_Lpair.nd rfl (Or.inl rfl) (pe_tup (pa_cons (pe_ix (kb_ix K) (pv 8) pe_int (fun _ _ => rfl)) (pa_cons (pe_op op_xor (pe_ix (kb_ix K) (pv 8) pe_int (fun _ _ => rfl)) (pe_op op_shlW pe_int (pe_op op_mod (pe_call (ok_Lcell_at T) (hr.mono (by decide)) (by rfl) T.g_Lcell_at T.F_Lcell_at.kp T.b_Lcell_at .nil pass0 (pa_cons (pv 0) (pa_cons pe_int pa_nil))) (pe_ix (kb_ix K) (pv 8) pe_int (fun _ _ => rfl))))) pa_nil))))) pss_nil)
        (pss_cons (ps_if (pt_cmpR (kb_eq K (hu := hu)) (pv 1) pe_int (nomark _)) (pss_cons (ps_set (i := 7) sc_Lpair.nd rfl (Or.inl rfl) (pe_tup (pa_cons (pe_ix (kb_ix K) (pv 7) pe_int (fun _ _ => rfl)) (pa_cons (pe_call (ok_Lbits T) (hr.mono (by decide)) (by rfl) T.g_Lbits T.F_Lbits.kp T.b_Lbits .nil pass0 (pa_cons (pv 3) (pa_cons (pe_ix (kb_ix K) (pv 7) pe_int (fun _ _ => rfl)) pa_nil))) pa_nil))))
        (pss_one (ps_set (i := 8) sc_Lpair.nd rfl (Or.inl rfl) (pe_tup (pa_cons (pe_ix (kb_ix K) (pv 8) pe_int (fun _ _ => rfl)) (pa_cons (pe_call (ok_Lbits T) (hr.mono (by decide)) (by rfl) T.g_Lbits T.F_Lbits.kp T.b_Lbits .nil pass0 (pa_cons (pe_call (ok_Lcell_at T) (hr.mono (by decide)) (by rfl) T.g_Lcell_at T.F_Lcell_at.kp T.b_Lcell_at .nil pass0 (pa_cons (pv 0) (pa_cons pe_int pa_nil))) (pa_cons (pe_ix (kb_ix K) (pv 8) pe_int (fun _ _ => rfl)) pa_nil))) pa_nil)))))) pss_nil)
        (pss_cons (ps_if (pt_cmpR (kb_eq K (hu := hu)) (pv 1) pe_int (nomark _)) (pss_one (ps_set (i := 8) sc_Lpair.nd rfl (Or.inl rfl) (pv 7))) pss_nil)
        (pss_cons (ps_if (pt_cmpR (kb_eq K (hu := hu)) (pv 1) pe_int (nomark _)) (pss_one (ps_set (i := 8) sc_Lpair.nd rfl (Or.inl rfl) (pe_tup (pa_cons (pe_ix (kb_ix K) (pv 7) pe_int (fun _ _ => rfl)) (pa_cons (pe_op op_sub (pe_op op_sub (pe_op op_shlW pe_int (pe_ix (kb_ix K) (pv 7) pe_int (fun _ _ => rfl))) pe_int) (pe_ix (kb_ix K) (pv 7) pe_int (fun _ _ => rfl))) pa_nil))))) pss_nil)
        (pss_one (ps_ret (pe_tup (pa_cons (pv 7) (pa_cons (pv 8) pa_nil))))))))))))))))))), ?_⟩
    walk_at "go"
    rename_i c0 _ _ c1 _ _ c2 _ h2m
    obtain ⟨w, hw⟩ : ∃ w, w = c0 % 8 := ⟨_, rfl⟩
    rw [← hw]
    with_reducible refine k_cutI (fun σ' H' => ∃ s t u : Nat, σ' = [some (.ref a), some (.int w), some (.int c1), some (.int c2), some (.int (s : Int)), some (.int (t : Int)), some (.int (u : Int)), none, none] ∧ Same H H' ∧ 1 ≤ s ∧ s ≤ 60 ∧ 1 ≤ t ∧ t ≤ 500 ∧ 1 ≤ u ∧ u ≤ 500 ∧ s * t ≤ 1300 ∧ s * u ≤ 1300) (fun N hN => ?_) ?_
    · walk_at "go"
      refine if_dec (fun _ => ?_) (fun _ => ?_)
      · walk_at "go"
        obtain ⟨s, hs⟩ := Int.eq_ofNat_of_zero_le (show 0 ≤ 1 + c1 % 3 by omega)
        obtain ⟨t, ht⟩ := Int.eq_ofNat_of_zero_le (show 0 ≤ 390 + c1 / 3 % 20 by omega)
        rw [hs, ht, show (t : Int) + 1 = ((t + 1 : Nat) : Int) by omega]
        exact hN _ _ ⟨s, t, t + 1, rfl, by assumption, by omega, by omega, by omega, by omega, by omega, by omega, Nat.le_trans (Nat.mul_le_mul (show s ≤ 3 by omega) (show t ≤ 409 by omega)) (by decide), Nat.le_trans (Nat.mul_le_mul (show s ≤ 3 by omega) (show t + 1 ≤ 410 by omega)) (by decide)⟩
      · walk_at "go"
        obtain ⟨s, hs⟩ := Int.eq_ofNat_of_zero_le (show 0 ≤ 1 + c1 % 12 by omega)
        obtain ⟨t, ht⟩ := Int.eq_ofNat_of_zero_le (show 0 ≤ 1 + c1 / 12 % 7 by omega)
        obtain ⟨u, hu'⟩ := Int.eq_ofNat_of_zero_le (show 0 ≤ 1 + c1 / 84 % 7 by omega)
        rw [hs, ht, hu']
        exact hN _ _ ⟨s, t, u, rfl, by assumption, by omega, by omega, by omega, by omega, by omega, by omega, Nat.le_trans (Nat.mul_le_mul (show s ≤ 12 by omega) (show t ≤ 7 by omega)) (by decide), Nat.le_trans (Nat.mul_le_mul (show s ≤ 12 by omega) (show u ≤ 7 by omega)) (by decide)⟩
    rintro _ H0 ⟨s, t, u, rfl, s0, hs1, hs2, ht1, ht2, hu1, hu2, hst, hsu⟩
    have hS0 := same_l s0 hS
    walk_at "go"
    refine k_Lbits h2m hs1 (by omega) fun x hx => ?_
    walk_at "go"
    refine k_Llaid hx hs1 hs2 ht1 ht2 fun p1 H1 y1 s1 r1 => ?_
    walk_at "go"
    refine k_Lbits h2m hs1 (by omega) fun x2 hx2 => ?_
    walk_at "go"
    refine k_Llaid hx2 hs1 hs2 hu1 hu2 fun p2 H2 y2 s2 r2 => ?_
    have r12 := r1.mono s2
    have hS2 := same_l s2 (same_l s1 hS0)
    have s02 := (s0.trans s1).trans s2
    have hI : ∃ n b m c : Nat, RT K H2 p1 n b ∧ RT K H2 p2 m c ∧ n ≤ 1300 ∧ m ≤ 1300 := ⟨_, _, _, _, r12, r2, hst, hsu⟩
    clear r1 r12 r2 hS0
    walk_at "go"
    -- first
    with_reducible refine k_cutI (fun σ' H' => ∃ (p1 p2 : Addr), σ' = [some (.ref a), some (.int w), some (.int c1), some (.int c2), some (.int (s : Int)), some (.int (t : Int)), some (.int (u : Int)), some (.ref p1), some (.ref p2)] ∧ Same H H' ∧ ∃ n b m c : Nat, RT K H' p1 n b ∧ RT K H' p2 m c ∧ n ≤ 1300 ∧ m ≤ 1300) (fun N hN => ?_) ?_
    · walk_at "go"
      refine if_dec (fun _ => ?_) (fun _ => ?_)
      · walk_at "go"
        obtain ⟨n, hn⟩ := Int.eq_ofNat_of_zero_le (show 0 ≤ 1 + c1 % 60 by omega)
        rw [hn]
        refine k_Lbits h2m (by omega) (by omega) fun b hb' => ?_
        walk_at "go"
        rename_i q1 H3 _ s3 t3 c3 _ h3m
        obtain ⟨m, hm⟩ := Int.eq_ofNat_of_zero_le (show 0 ≤ 1 + c1 / 60 % 60 by omega)
        rw [hm]
        refine k_Lbits h3m (by omega) (by omega) fun c hc' => ?_
        walk_at "go"
        rename_i q2 H4 _ s4 t4
        exact hN _ _ ⟨q1, q2, rfl, (s02.trans s3).trans s4, n, b, m, c, ⟨same_t s4 (SqT.of t3), by omega, by omega, hb'⟩, ⟨SqT.of t4, by omega, by omega, hc'⟩, by omega, by omega⟩
      · walk_at "go"
        exact hN _ _ ⟨p1, p2, rfl, s02, hI⟩
    clear hI
    rintro _ H5 ⟨p1, p2, rfl, s5, n, b, m, c, r1, r2, hn, hm⟩
    have hS5 := same_l s5 hS
    have ht1' := r1.t
    have ht2' := r2.t
    have hm1 := r2.n1
    have hn1 := r1.n1
    -- second
    with_reducible refine k_cutI (fun σ' H' => ∃ (p1 p2 : Addr), σ' = [some (.ref a), some (.int w), some (.int c1), some (.int c2), some (.int (s : Int)), some (.int (t : Int)), some (.int (u : Int)), some (.ref p1), some (.ref p2)] ∧ Same H H' ∧ ∃ n b m c : Nat, RT K H' p1 n b ∧ RT K H' p2 m c ∧ n ≤ 1300 ∧ m ≤ 1300) (fun N hN => ?_) ?_
    · walk_at "go"
      rename_i q6 H6 _ s6 t6
      refine if_dec (fun _ => ?_) (fun _ => ?_)
      · walk_at "go"
        rename_i c3 _ h3m q7 H7 _ s7 t7
        exact hN _ _ ⟨p1, q7, rfl, (s5.trans s6).trans s7, n, b, m, _, (r1.mono s6).mono s7, ⟨SqT.of t7, hm1, by omega, Nat.xor_lt_two_pow r2.lt (one_lt hm1 _)⟩, hn, hm⟩
      · walk_at "go"
        exact hN _ _ ⟨p1, p2, rfl, s5.trans s6, n, b, m, c, r1.mono s6, r2.mono s6, hn, hm⟩
    clear ht1' ht2' hS5 hm1 hn1 r1 r2 hn hm s5
    rintro _ H5 ⟨p1, p2, rfl, s5, n, b, m, c, r1, r2, hn, hm⟩
    have hS5 := same_l s5 hS
    have ht1' := r1.t
    have ht2' := r2.t
    have hm1 := r2.n1
    have hn1 := r1.n1
    -- third
    with_reducible refine k_cutI (fun σ' H' => ∃ (p1 p2 : Addr), σ' = [some (.ref a), some (.int w), some (.int c1), some (.int c2), some (.int (s : Int)), some (.int (t : Int)), some (.int (u : Int)), some (.ref p1), some (.ref p2)] ∧ Same H H' ∧ ∃ n b m c : Nat, RT K H' p1 n b ∧ RT K H' p2 m c ∧ n ≤ 1300 ∧ m ≤ 1300) (fun N hN => ?_) ?_
    · walk_at "go"
      refine if_dec (fun _ => ?_) (fun _ => ?_)
      · walk_at "go"
        refine k_Lbits h2m hn1 (by omega) fun x3 hx3 => ?_
        walk_at "go"
        rename_i q6 H6 _ s6 t6 c3 _ h3m
        refine k_Lbits h3m hm1 (by omega) fun x4 hx4 => ?_
        walk_at "go"
        rename_i q7 H7 _ s7 t7
        exact hN _ _ ⟨q6, q7, rfl, (s5.trans s6).trans s7, n, _, m, _, ⟨same_t s7 (SqT.of t6), hn1, by omega, hx3⟩, ⟨SqT.of t7, hm1, by omega, hx4⟩, hn, hm⟩
      · walk_at "go"
        exact hN _ _ ⟨p1, p2, rfl, s5, n, b, m, c, r1, r2, hn, hm⟩
    clear ht1' ht2' hS5 hm1 hn1 r1 r2 hn hm s5
    rintro _ H5 ⟨p1, p2, rfl, s5, n, b, m, c, r1, r2, hn, hm⟩
    have hS5 := same_l s5 hS
    have ht1' := r1.t
    have ht2' := r2.t
    have hm1 := r2.n1
    have hn1 := r1.n1
    with_reducible refine k_cutI (fun σ' H' => ∃ (p1 p2 : Addr), σ' = [some (.ref a), some (.int w), some (.int c1), some (.int c2), some (.int (s : Int)), some (.int (t : Int)), some (.int (u : Int)), some (.ref p1), some (.ref p2)] ∧ Same H H' ∧ ∃ n b m c : Nat, RT K H' p1 n b ∧ RT K H' p2 m c ∧ n ≤ 1300 ∧ m ≤ 1300) (fun N hN => ?_) ?_
    · walk_at "go"
      refine if_dec (fun _ => ?_) (fun _ => ?_)
      · walk_at "go"
        exact hN _ _ ⟨p1, p1, rfl, s5, n, b, n, b, r1, r1, hn, hn⟩
      · walk_at "go"
        exact hN _ _ ⟨p1, p2, rfl, s5, n, b, m, c, r1, r2, hn, hm⟩
    clear ht1' ht2' hS5 hm1 hn1 r1 r2 hn hm s5
    rintro _ H5 ⟨p1, p2, rfl, s5, n, b, m, c, r1, r2, hn, hm⟩
    have hS5 := same_l s5 hS
    have ht1' := r1.t
    have ht2' := r2.t
    have hm1 := r2.n1
    have hn1 := r1.n1
    -- fourth
    with_reducible refine k_cutI (fun σ' H' => ∃ (p1 p2 : Addr), σ' = [some (.ref a), some (.int w), some (.int c1), some (.int c2), some (.int (s : Int)), some (.int (t : Int)), some (.int (u : Int)), some (.ref p1), some (.ref p2)] ∧ Same H H' ∧ ∃ n b m c : Nat, RT K H' p1 n b ∧ RT K H' p2 m c ∧ n ≤ 1300 ∧ m ≤ 1300) (fun N hN => ?_) ?_
    · walk_at "go"
      refine if_dec (fun _ => ?_) (fun _ => ?_)
      · walk_at "go"
        rename_i q7 H7 _ s7 t7
        have hle : b ≤ 2 ^ n - 1 := by have := r1.lt; omega
        rw [Int.toNat_natCast, show ((2 ^ n : Nat) : Int) - 1 - (b : Int) = ((2 ^ n - 1 - b : Nat) : Int) by have := Nat.two_pow_pos n; omega] at t7
        exact hN _ _ ⟨p1, q7, rfl, s5.trans s7, n, b, n, _, r1.mono s7, ⟨SqT.of t7, hn1, by omega, by have := Nat.two_pow_pos n; omega⟩, hn, hn⟩
      · walk_at "go"
        exact hN _ _ ⟨p1, p2, rfl, s5, n, b, m, c, r1, r2, hn, hm⟩
    clear ht1' ht2' hS5 hm1 hn1 r1 r2 hn hm s5
    rintro _ H5 ⟨p1, p2, rfl, s5, n, b, m, c, r1, r2, hn, hm⟩
    walk_at "go"
    rename_i q9 H9 _ s9 t9
    exact q q9 p1 p2 H9 n b m c (s5.trans s9) t9 (r1.mono s9) (r2.mono s9) hn hm
theorem k_Lpair {K : PySem.W.Frag} {H : Hp} {Q : VK} {E : XK} {a : Addr} {ns : List Int} (hb : ∀ z ∈ ns, Builtin.Int.intBits z ≤ 1048576) (hS : SqL K H a (ns.map V.int))
  (q : ∀ (p p1 p2 : Addr) (H' : Hp) (n b m c : Nat), Same H H' → H' p = some (.tup [.ref p1, .ref p2]) → RT K H' p1 n b → RT K H' p2 m c → n ≤ 1300 → m ≤ 1300 → Q (.ref p) H') : sp_Lpair K [.ref a] H Q E := ⟨a, ns, rfl, hS, hb, q⟩

/-! ### divisor -/
def sp_divisor (K : PySem.W.Frag) : Sp := fun vs H Q _ => ∃ i j : Int, vs = [.int i, .int j] ∧ Q (.int (Int.gcd i j : Nat)) H
theorem ok_divisor (T : Txt K mg) : FnOk P w K mg base CX0 1 T.a_divisor T.fd_divisor ["one", "other"] (sp_divisor K) := by
  refine T.F_divisor.ok sc_divisor (fun vs H Q E h => ?_) (fun cdv A outer s H vs Q E hr h => ?_)
  · obtain ⟨_, _, rfl, _⟩ := h; rfl
  · obtain ⟨i, j, rfl, q⟩ := h
    have hu := hr.units
    refine ⟨_, (pss_cons (ps_set (i := 0) sc_divisor.nd rfl (Or.inl rfl) (pe_callB cb_abs (by rfl) T.n_abs (by decide +kernel) (pa_cons (pv 0) pa_nil)))
        (pss_cons (ps_set (i := 1) sc_divisor.nd rfl (Or.inl rfl) (pe_callB cb_abs (by rfl) T.n_abs (by decide +kernel) (pa_cons (pv 1) pa_nil)))
        (pss_cons (ps_while PassesOwn.never (pt_cmpR (kb_ne K (hu := hu)) (pv 1) pe_int (nomark _)) (pss_one (ps_par rfl sc_divisor.nd (i := 0) (j := 1) rfl rfl (by decide) rfl rfl (pa_cons (pv 1) (pa_cons (pe_op op_mod (pv 0) (pv 1)) pa_nil)) (by rfl))))
        (pss_one (ps_ret (pv 0)))))), ?_⟩
    walk_at "go"
    apply k_seqW
    refine k_while (fun m σ' H' => ∃ x y : Int, σ' = [some (.int x), some (.int y)] ∧ H = H' ∧ 0 ≤ x ∧ 0 ≤ y ∧ m = y.toNat ∧ Int.gcd x y = Int.gcd i j) _ ⟨_, _, rfl, rfl, abs_nn _, abs_nn _, rfl, gcd_abs i j⟩ ?_
    rintro m _ _ ⟨x, y, rfl, rfl, hx, hy, rfl, hg⟩
    walk_at "go"
    refine if_ndec (fun hbr => ?_) (fun hbr => ?_)
    · apply k_turn
      walk_at "go"
      have h1 := Int.emod_nonneg x hbr
      have h2 := Int.emod_lt_of_pos x (show 0 < y by omega)
      exact ⟨_, by omega, _, _, rfl, rfl, hy, h1, rfl, by rw [gcd_mod]; exact hg⟩
    · walk_at "go"
      rw [← hg, hbr, gcd_zero x hx] at q
      exact q
theorem k_divisor {H : Hp} {Q : VK} {E : XK} {i j : Int} (q : Q (.int (Int.gcd i j : Nat)) H) : sp_divisor K [.int i, .int j] H Q E := ⟨i, j, rfl, q⟩
local macro_rules | `(tactic| walk_at "st") => `(tactic| first | (with_reducible apply k_divisor) | fail)

/-! ### mask -/
def sp_mask (K : PySem.W.Frag) : Sp := fun vs H Q _ => ∃ k : Int, vs = [.int k] ∧ 0 ≤ k ∧ k ≤ 10000000 ∧ Q (.int (2 ^ k.toNat - 1)) H
theorem ok_mask (T : Txt K mg) : FnOk P w K mg base CX0 1 T.a_mask T.fd_mask ["size"] (sp_mask K) := by
  refine T.F_mask.ok sc_mask (fun vs H Q E h => ?_) (fun cdv A outer s H vs Q E hr h => ?_)
  · obtain ⟨_, rfl, _⟩ := h; rfl
  · obtain ⟨k, rfl, h0, h1, q⟩ := h
    refine ⟨_, (pss_one (ps_ret (pe_op op_sub (pe_op op_shlW pe_int (pv 0)) pe_int))), ?_⟩
    walk_at "go"
    rw [← pow_c]
    exact q
theorem k_mask {H : Hp} {Q : VK} {E : XK} {k : Int} (h0 : 0 ≤ k) (h1 : k ≤ 10000000) (q : Q (.int (2 ^ k.toNat - 1)) H) : sp_mask K [.int k] H Q E := ⟨k, rfl, h0, h1, q⟩
local macro_rules | `(tactic| walk_at "st") => `(tactic| first | ((with_reducible apply k_mask); (· omega); (· omega)) | fail)

/-! ### cut_to -/
def sp_cut_to (K : PySem.W.Frag) : Sp := fun vs H Q _ => ∃ (a : Addr) (n b j : Nat), vs = [.ref a, .int (j : Int)] ∧ RT K H a n b ∧ 1 ≤ j ∧ j ≤ n ∧
  ∀ (p : Addr) (H' : Hp), Same H H' → RT K H' p j (b % 2 ^ j) → Q (.ref p) H'
theorem ok_cut_to (T : Txt K mg) : FnOk P w K mg base CX0 2 T.a_cut_to T.fd_cut_to ["turn", "size"] (sp_cut_to K) := by
  refine T.F_cut_to.ok sc_cut_to (fun vs H Q E h => ?_) (fun cdv A outer s H vs Q E hr h => ?_)
  · obtain ⟨_, _, _, _, rfl, _⟩ := h; rfl
  · obtain ⟨a, n, b, j, rfl, r, h1, h2, q⟩ := h
    have hu := hr.units
    have ht := r.t
    have hn2 := r.n2
    refine ⟨_, (pss_one (ps_ret (pe_tup (pa_cons (pv 1) (pa_cons (pe_op op_and (pe_ix (kb_ix K) (pv 0) pe_int (fun _ _ => rfl)) (pe_call (ok_mask T) (hr.mono (by decide)) (by rfl) T.g_mask T.F_mask.kp T.b_mask .nil pass0 (pa_cons (pv 1) pa_nil))) pa_nil))))), ?_⟩
    walk_at "go"
    rename_i p H' _ s3 t3
    rw [Int.toNat_natCast] at t3
    exact q p H' s3 ⟨SqT.of t3, h1, by omega, Nat.mod_lt _ (Nat.two_pow_pos j)⟩
theorem k_cut_to {H : Hp} {Q : VK} {E : XK} {a : Addr} {n b j : Nat} (r : RT K H a n b) (h1 : 1 ≤ j) (h2 : j ≤ n) (q : ∀ (p : Addr) (H' : Hp), Same H H' → RT K H' p j (b % 2 ^ j) → Q (.ref p) H') : sp_cut_to K [.ref a, .int (j : Int)] H Q E := ⟨a, n, b, j, rfl, r, h1, h2, q⟩

/-! ### allowed -/
def sp_allowed (K : PySem.W.Frag) : Sp := fun vs H Q _ => ∃ i, vs = [.int i] ∧ 1 ≤ i ∧ i ≤ 150000 ∧ Q .non H
theorem ok_allowed (T : Txt K mg) : FnOk P w K mg base CX0 1 T.a_allowed T.fd_allowed ["size"] (sp_allowed K) := by
  refine T.F_allowed.ok sc_allowed (fun vs H Q E h => ?_) (fun cdv A outer s H vs Q E hr h => ?_)
  · obtain ⟨i, rfl, _⟩ := h; rfl
  · obtain ⟨i, rfl, h1, h2, q⟩ := h
    refine ⟨_, (pss_cons (ps_if (pt_cmpR op_lt (pv 0) pe_int (nomark _)) (pss_one ps_never) pss_nil)
        (pss_one (ps_if (pt_cmpR op_gt (pv 0) (pe_glob (v := (.int 150000)) rfl T.c_LIMIT ⟨_, rfl⟩) (nomark _)) (pss_one ps_never) pss_nil))), ?_⟩
    walk_at "run"
    exact q
theorem k_allowed {H : Hp} {Q : VK} {E : XK} {i : Int} (h1 : 1 ≤ i) (h2 : i ≤ 150000) (q : Q .non H) : sp_allowed K [.int i] H Q E := ⟨i, rfl, h1, h2, q⟩
local macro_rules | `(tactic| walk_at "st") => `(tactic| first | ((with_reducible apply k_allowed); (· omega); (· omega)) | fail)

/-! ### stretched -/
def sp_stretched (K : PySem.W.Frag) : Sp := fun vs H Q _ => ∃ (a : Addr) (n b m : Nat), vs = [.ref a, .int (m : Int)] ∧ RT K H a n b ∧ n ∣ m ∧ 1 ≤ m ∧ m ≤ 150000 ∧
  ∀ (p : Addr) (H' : Hp), Same H H' → SqT K H' p [.int (m : Int), .int (bitsOf m (hold n b) : Nat)] → Q (.ref p) H'
theorem ok_stretched (T : Txt K mg) : FnOk P w K mg base CX0 2 T.a_stretched T.fd_stretched ["turn", "size"] (sp_stretched K) := by
  refine T.F_stretched.ok sc_stretched (fun vs H Q E h => ?_) (fun cdv A outer s H vs Q E hr h => ?_)
  · obtain ⟨_, _, _, _, rfl, _⟩ := h; rfl
  · obtain ⟨a, n, b, m, rfl, r, hd, hm, hm', q⟩ := h
    have hu := hr.units
    have ht := r.t
    have hn := r.n1
    have hb := r.lt
    have e0 : (m : Int) % (n : Int) = 0 := Int.emod_eq_zero_of_dvd (Int.natCast_dvd_natCast.mpr hd)
    have hnm : n ≤ m := Nat.le_of_dvd (by omega) hd
    refine ⟨_, (pss_cons (ps_if (PW.pt (pw_or (pt_cmpR op_lt (pv 1) pe_int (nomark _)) (pw_or1 (pt_cmpR (kb_ne K (hu := hu)) (pe_op op_mod (pv 1) (pe_ix (kb_ix K) (pv 0) pe_int (fun _ _ => rfl))) pe_int (nomark _))))) (pss_one ps_never) pss_nil)
        (pss_cons (ps_expr (pe_call (ok_allowed T) (hr.mono (by decide)) (by rfl) T.g_allowed T.F_allowed.kp T.b_allowed .nil pass0 (pa_cons (pv 1) pa_nil)))
        (pss_cons (ps_set (i := 2) sc_stretched.nd rfl (Or.inl rfl) (pe_ix (kb_ix K) (pv 0) pe_int (fun _ _ => rfl)))
        (pss_cons (ps_set (i := 3) sc_stretched.nd rfl (Or.inl rfl) (pe_ix (kb_ix K) (pv 0) pe_int (fun _ _ => rfl)))
        (pss_cons (ps_while PassesOwn.never (pt_cmpR op_lt (pv 3) (pv 1) (nomark _)) (pss_cons (ps_set (i := 4) sc_stretched.nd rfl (Or.inl rfl) (pe_callB (cb_min2 rfl) (by rfl) T.n_min (by decide +kernel) (pa_cons (pv 3) (pa_cons (pe_op op_sub (pv 1) (pv 3)) pa_nil))))
        (pss_cons (ps_set (i := 2) sc_stretched.nd rfl (Or.inl rfl) (pe_op op_or (pv 2) (pe_op op_shlW (pe_op op_and (pv 2) (pe_call (ok_mask T) (hr.mono (by decide)) (by rfl) T.g_mask T.F_mask.kp T.b_mask .nil pass0 (pa_cons (pv 4) pa_nil))) (pv 3))))
        (pss_one (ps_set (i := 3) sc_stretched.nd rfl (Or.inl rfl) (pe_op op_addA (pv 3) (pv 4)))))))
        (pss_one (ps_ret (pe_tup (pa_cons (pv 1) (pa_cons (pv 2) pa_nil)))))))))), ?_⟩
    walk_at "run"
    apply k_seqW
    refine k_while (fun k σ' H' => ∃ (h x : Nat) (v : Option V), σ' = [some (.ref a), some (.int (m : Int)), some (.int (x : Int)), some (.int (h : Int)), v] ∧ H = H' ∧ x = ofB (fun i => b.testBit (i % n)) h ∧ n ∣ h ∧ 1 ≤ h ∧ h ≤ m ∧ k = m - h) _
      ⟨n, b, none, rfl, rfl, str_start hb, Nat.dvd_refl n, hn, hnm, rfl⟩ ?_
    rintro k _ _ ⟨h, x, v, rfl, rfl, rfl, hdh, h1, h2, rfl⟩
    walk_at "go"
    refine if_dec (fun hbr => ?_) (fun hbr => ?_)
    · apply k_turn
      walk_at "go"
      rename_i k hk1 hk2 hk3
      obtain ⟨k, rfl⟩ := Int.eq_ofNat_of_zero_le (show 0 ≤ k by omega)
      have hst := str_step (g := fun i => b.testBit (i % n)) (h := h) (k := k) (fun i => by show b.testBit (i % n % n) = _; rw [Nat.mod_mod]) hdh (by omega)
      refine ⟨_, ?_, h + k, _, _, rfl, rfl, hst, ?_, by omega, by omega, rfl⟩
      · omega
      · rcases hk1 with e | e
        · have : k = h := by omega
          subst this; exact Nat.dvd_add hdh hdh
        · have : h + k = m := by omega
          rw [this]; exact hd
    · have : h = m := by omega
      subst this
      walk_at "go"
      rename_i p H' _ _ _
      refine q p H' (by assumption) (SqT.of ?_)
      rw [← str_bits hn]; assumption
theorem k_stretched {H : Hp} {Q : VK} {E : XK} {a : Addr} {n b m : Nat} (r : RT K H a n b) (hd : n ∣ m) (hm : 1 ≤ m) (hm' : m ≤ 150000)
    (q : ∀ (p : Addr) (H' : Hp), Same H H' → SqT K H' p [.int (m : Int), .int (bitsOf m (hold n b) : Nat)] → Q (.ref p) H') : sp_stretched K [.ref a, .int (m : Int)] H Q E := ⟨a, n, b, m, rfl, r, hd, hm, hm', q⟩

/-! ### alike_by -/
def sp_alike_by (K : PySem.W.Frag) : Sp := fun vs H Q _ => ∃ (p a a2 : Addr) (g s n b m c : Nat), vs = [.ref p, .ref a, .ref a2] ∧ RT K H p g s ∧ RT K H a n b ∧ RT K H a2 m c ∧ g ∣ n ∧ g ∣ m ∧
  ∀ (x : Bool) (H' : Hp), Same H H' → (x = true ↔ (∀ e, hold g s e = hold n b e) ∧ (∀ e, hold g s e = hold m c e)) → Q (.bl x) H'
theorem str_eq {g s n b : Nat} (hn : 1 ≤ n) (hd : g ∣ n) (hb : b < 2 ^ n) : ((bitsOf n (hold g s) : Nat) : Int) = (b : Int) ↔ ∀ e, hold g s e = hold n b e := by
  constructor
  · intro h e
    have h2 : bitsOf n (hold g s) = b := by omega
    rw [← h2, hold_str hn hd]
  · intro h
    have : bitsOf n (hold g s) = b := by rw [bitsOf_ext (g := hold n b) (fun i _ => h i), bitsOf_self hb]
    rw [this]
theorem ok_alike_by (T : Txt K mg) : FnOk P w K mg base CX0 3 T.a_alike_by T.fd_alike_by ["small", "one", "other"] (sp_alike_by K) := by
  refine T.F_alike_by.ok sc_alike_by (fun vs H Q E h => ?_) (fun cdv A outer s H vs Q E hr h => ?_)
  · obtain ⟨_, _, _, _, _, _, _, _, _, rfl, _⟩ := h; rfl
  · obtain ⟨p, a, a2, g, s, n, b, m, c, rfl, r0, r, r2, hd1, hd2, q⟩ := h
    have hu := hr.units
    have ht := r.t
    have ht2 := r2.t
    have hn := r.n1
    have hn2 := r.n2
    have hm := r2.n1
    have hm2 := r2.n2
    refine ⟨_, (pss_one (ps_ret (pe_and (pe_cmpR (kb_eq K (hu := hu)) (pe_call (ok_stretched T) (hr.mono (by decide)) (by rfl) T.g_stretched T.F_stretched.kp T.b_stretched .nil pass0 (pa_cons (pv 0) (pa_cons (pe_ix (kb_ix K) (pv 1) pe_int (fun _ _ => rfl)) pa_nil))) (pv 1) (nomark _)) (pe_one (pe_cmpR (kb_eq K (hu := hu)) (pe_call (ok_stretched T) (hr.mono (by decide)) (by rfl) T.g_stretched T.F_stretched.kp T.b_stretched .nil pass0 (pa_cons (pv 0) (pa_cons (pe_ix (kb_ix K) (pv 2) pe_int (fun _ _ => rfl)) pa_nil))) (pv 2) (nomark _)))))), ?_⟩
    walk_at "go"
    refine k_stretched r0 hd1 hn hn2 fun p1 H1 s1 t1 => ?_
    have ht' := same_t s1 ht
    walk_at "go"
    refine if_dec (fun h1 => ?_) (fun h1 => ?_)
    · have ht2' := same_t s1 ht2
      walk_at "go"
      refine k_stretched (r0.mono s1) hd2 hm hm2 fun p2 H2 s2 t2 => ?_
      have ht2'' := same_t s2 ht2'
      walk_at "go"
      refine q _ _ (s1.trans s2) ?_
      rw [decide_eq_true_iff]
      exact ⟨fun h2 => ⟨(str_eq hn hd1 r.lt).mp h1.2, (str_eq hm hd2 r2.lt).mp h2.2⟩, fun h2 => ⟨rfl, (str_eq hm hd2 r2.lt).mpr h2.2⟩⟩
    · exact q false _ s1 ⟨fun h => absurd h (by decide), fun h2 => absurd ⟨rfl, (str_eq hn hd1 r.lt).mpr h2.1⟩ h1⟩
theorem k_alike_by {K : PySem.W.Frag} {H : Hp} {Q : VK} {E : XK} {p a a2 : Addr} {g s n b m c : Nat} (r0 : RT K H p g s) (r : RT K H a n b) (r2 : RT K H a2 m c) (hd1 : g ∣ n) (hd2 : g ∣ m)
    (q : ∀ (x : Bool) (H' : Hp), Same H H' → (x = true ↔ (∀ e, hold g s e = hold n b e) ∧ (∀ e, hold g s e = hold m c e)) → Q (.bl x) H') : sp_alike_by K [.ref p, .ref a, .ref a2] H Q E := ⟨p, a, a2, g, s, n, b, m, c, rfl, r0, r, r2, hd1, hd2, q⟩

/-! ### later -/
def sp_later (K : PySem.W.Frag) : Sp := fun vs H Q _ => ∃ (a : Addr) (n b : Nat) (k : Int), vs = [.ref a, .int k] ∧ RT K H a n b ∧
  ∀ (p : Addr) (H' : Hp), Same H H' → RT K H' p n (bitsOf n (fun d => hold n b (d - k))) → Q (.ref p) H'
theorem ok_later (T : Txt K mg) : FnOk P w K mg base CX0 2 T.a_later T.fd_later ["turn", "number"] (sp_later K) := by
  refine T.F_later.ok sc_later (fun vs H Q E h => ?_) (fun cdv A outer s H vs Q E hr h => ?_)
  · obtain ⟨_, _, _, _, rfl, _⟩ := h; rfl
  · obtain ⟨a, n, b, k, rfl, r, q⟩ := h
    have hu := hr.units
    have ht := r.t
    have hn := r.n1
    have hn2 := r.n2
    have hsm := r.sm
    have h1 := Int.emod_nonneg k (show (n : Int) ≠ 0 by omega)
    have h2 := Int.emod_lt_of_pos k (show (0 : Int) < n by omega)
    refine ⟨_, (pss_cons (ps_set (i := 2) sc_later.nd rfl (Or.inl rfl) (pe_ix (kb_ix K) (pv 0) pe_int (fun _ _ => rfl)))
        (pss_cons (ps_set (i := 3) sc_later.nd rfl (Or.inl rfl) (pe_op op_mod (pv 1) (pv 2)))
        (pss_one (ps_ret (pe_tup (pa_cons (pv 2) (pa_cons (pe_op op_and (pe_op op_or (pe_op op_shlW (pe_ix (kb_ix K) (pv 0) pe_int (fun _ _ => rfl)) (pv 3)) (pe_op op_shr (pe_ix (kb_ix K) (pv 0) pe_int (fun _ _ => rfl)) (pe_op op_sub (pv 2) (pv 3)))) (pe_call (ok_mask T) (hr.mono (by decide)) (by rfl) T.g_mask T.F_mask.kp T.b_mask .nil pass0 (pa_cons (pv 2) pa_nil))) pa_nil))))))), ?_⟩
    walk_at "go"
    rename_i p H' _ s3 t3
    rw [Int.toNat_natCast, later_bits hn r.lt] at t3
    exact q p H' s3 ⟨SqT.of t3, hn, hn2, bitsOf_lt _ _⟩
theorem k_later {H : Hp} {Q : VK} {E : XK} {a : Addr} {n b : Nat} {k : Int} (r : RT K H a n b)
    (q : ∀ (p : Addr) (H' : Hp), Same H H' → RT K H' p n (bitsOf n (fun d => hold n b (d - k))) → Q (.ref p) H') : sp_later K [.ref a, .int k] H Q E := ⟨a, n, b, k, rfl, r, q⟩

/-! ### row_from -/
def sp_row_from (K : PySem.W.Frag) : Sp := fun vs H Q _ => ∃ (a : Addr) (n b k : Nat) (d : Int), vs = [.ref a, .int d, .int (k : Int)] ∧ RT K H a n b ∧ k ≤ 300000 ∧
  ∀ H', Same H H' → Q (.int (ofB (fun i => hold n b (d + i)) k : Nat)) H'
theorem ofB_mod {f : Nat → Bool} {h k : Nat} (hk : k ≤ h) : ofB f h % 2 ^ k = ofB f k := by
  apply eq_ofB; intro i
  rw [Nat.testBit_mod_two_pow, tb_ofB]
  by_cases hi : i < k
  · rw [decide_eq_true hi, decide_eq_true (show i < h by omega), Bool.true_and]
  · rw [decide_eq_false hi]; rfl
theorem ok_row_from (T : Txt K mg) : FnOk P w K mg base CX0 3 T.a_row_from T.fd_row_from ["turn", "day", "many"] (sp_row_from K) := by
  refine T.F_row_from.ok sc_row_from (fun vs H Q E h => ?_) (fun cdv A outer s H vs Q E hr h => ?_)
  · obtain ⟨_, _, _, _, _, rfl, _⟩ := h; rfl
  · obtain ⟨a, n, b, k, d, rfl, r, hk, q⟩ := h
    have hu := hr.units
    have ht := r.t
    have hn := r.n1
    have hn2 := r.n2
    refine ⟨_, (pss_cons (ps_set (i := 3) sc_row_from.nd rfl (Or.inl rfl) (pe_ix (kb_ix K) (pe_call (ok_later T) (hr.mono (by decide)) (by rfl) T.g_later T.F_later.kp T.b_later .nil pass0 (pa_cons (pv 0) (pa_cons (pe_un un_neg (pv 1)) pa_nil))) pe_int (fun _ _ => rfl)))
        (pss_cons (ps_set (i := 4) sc_row_from.nd rfl (Or.inl rfl) (pe_ix (kb_ix K) (pv 0) pe_int (fun _ _ => rfl)))
        (pss_cons (ps_while PassesOwn.never (pt_cmpR op_lt (pv 4) (pv 2) (nomark _)) (pss_cons (ps_set (i := 3) sc_row_from.nd rfl (Or.inl rfl) (pe_op op_or (pv 3) (pe_op op_shlW (pv 3) (pv 4))))
        (pss_one (ps_set (i := 4) sc_row_from.nd rfl (Or.inl rfl) (pe_op op_addA (pv 4) (pv 4))))))
        (pss_one (ps_ret (pe_op op_and (pv 3) (pe_call (ok_mask T) (hr.mono (by decide)) (by rfl) T.g_mask T.F_mask.kp T.b_mask .nil pass0 (pa_cons (pv 2) pa_nil)))))))), ?_⟩
    walk_at "go"
    refine k_later r fun p H1 s1 r1 => ?_
    have ht1 := r1.t
    have ht' := same_t s1 ht
    walk_at "go"
    have hstart : bitsOf n (fun e => hold n b (e - -d)) = ofB (fun i => hold n b (d + i)) n := ofB_ext fun i _ => by show hold n b ((i : Int) - -d) = hold n b (d + i); congr 1; omega
    rw [hstart]
    with_reducible apply k_seqW
    refine k_while (fun j σ' H' => ∃ h : Nat, σ' = [some (.ref a), some (.int d), some (.int (k : Int)), some (.int (ofB (fun i => hold n b (d + i)) h : Nat)), some (.int (h : Int))] ∧ H1 = H' ∧ n ∣ h ∧ 1 ≤ h ∧ j = k - h) _ ⟨n, rfl, rfl, Nat.dvd_refl n, hn, rfl⟩ ?_
    rintro j _ _ ⟨h, rfl, rfl, hd, h1, rfl⟩
    walk_at "go"
    refine if_dec (fun hbr => ?_) (fun hbr => ?_)
    · apply k_turn
      have hhk : h < k := by omega
      have so : Sm 400000 ((ofB (fun i => hold n b (d + i)) h : Nat) : Int) := sm_ofB (by omega)
      walk_at "go"
      have hst := str_step (g := fun i => hold n b (d + i)) (h := h) (k := h) (n := n) (fun i => by
        show hold n b (d + ((i % n : Nat) : Int)) = hold n b (d + i)
        exact hold_eq (by rw [Int.natCast_emod, Int.add_emod_emod])) hd (Nat.le_refl h)
      rw [Nat.mod_eq_of_lt (ofB_lt _ _)] at hst
      rw [Int.toNat_natCast, hst, show (h : Int) + (h : Int) = ((h + h : Nat) : Int) by omega]
      exact ⟨_, by omega, h + h, rfl, rfl, Nat.dvd_add hd hd, by omega, rfl⟩
    · walk_at "go"
      rw [Int.toNat_natCast, ofB_mod (by omega)]
      exact q _ s1
theorem k_row_from {K : PySem.W.Frag} {H : Hp} {Q : VK} {E : XK} {a : Addr} {n b k : Nat} {d : Int} (r : RT K H a n b) (hk : k ≤ 300000)
    (q : ∀ H', Same H H' → Q (.int (ofB (fun i => hold n b (d + i)) k : Nat)) H') : sp_row_from K [.ref a, .int d, .int (k : Int)] H Q E := ⟨a, n, b, k, d, rfl, r, hk, q⟩

/-! ### shrunk -/
def sp_shrunk (K : PySem.W.Frag) : Sp := fun vs H Q _ => ∃ (a : Addr) (n b f : Nat), vs = [.ref a, .int (f : Int)] ∧ RT K H a n b ∧ 1 ≤ f ∧ f ∣ n ∧
  (Per n b (n / f) → ∀ (p : Addr) (H' : Hp), Same H H' → RT K H' p (n / f) (b % 2 ^ (n / f)) → Q (.ref p) H') ∧
  (¬ Per n b (n / f) → ∀ H', Same H H' → Q (.ref a) H')
theorem ok_shrunk (T : Txt K mg) : FnOk P w K mg base CX0 3 T.a_shrunk T.fd_shrunk ["turn", "part"] (sp_shrunk K) := by
  refine T.F_shrunk.ok sc_shrunk (fun vs H Q E h => ?_) (fun cdv A outer s H vs Q E hr h => ?_)
  · obtain ⟨_, _, _, _, rfl, _⟩ := h; rfl
  · obtain ⟨a, n, b, f, rfl, r, h1, h2, q1, q2⟩ := h
    have hu := hr.units
    have ht := r.t
    have hn := r.n1
    have hn2 := r.n2
    have hfn := Nat.le_of_dvd hn h2
    have hj1 : 1 ≤ n / f := Nat.div_pos hfn h1
    have hj2 : n / f ≤ n := Nat.div_le_self n f
    have hjd : n / f ∣ n := Nat.div_dvd_of_dvd h2
    have e : (n : Int) / (f : Int) = ((n / f : Nat) : Int) := by rw [Int.natCast_ediv]
    refine ⟨_, (pss_cons (ps_set (i := 2) sc_shrunk.nd rfl (Or.inl rfl) (pe_call (ok_cut_to T) (hr.mono (by decide)) (by rfl) T.g_cut_to T.F_cut_to.kp T.b_cut_to .nil pass0 (pa_cons (pv 0) (pa_cons (pe_op op_fdivW (pe_ix (kb_ix K) (pv 0) pe_int (fun _ _ => rfl)) (pv 1)) pa_nil))))
        (pss_cons (ps_if (pt_cmpR (kb_eq K (hu := hu)) (pe_call (ok_stretched T) (hr.mono (by decide)) (by rfl) T.g_stretched T.F_stretched.kp T.b_stretched .nil pass0 (pa_cons (pv 2) (pa_cons (pe_ix (kb_ix K) (pv 0) pe_int (fun _ _ => rfl)) pa_nil))) (pv 0) (nomark _)) (pss_one (ps_ret (pv 2))) pss_nil)
        (pss_one (ps_ret (pv 0))))), ?_⟩
    walk_at "go"
    rw [e]
    refine k_cut_to r hj1 hj2 fun p1 H1 s1 r1 => ?_
    have ht1 := (r.mono s1).t
    walk_at "go"
    with_reducible apply k_seqI
    walk_at "go"
    refine k_stretched r1 hjd hn hn2 fun p2 H2 s2 t2 => ?_
    have ht2 := ((r.mono s1).mono s2).t
    walk_at "go"
    have hc := cut_alike hj1 hjd hn r.lt
    refine if_dec (fun hbr => ?_) (fun hbr => ?_)
    · walk_at "go"
      exact q1 (hc.mp (by have := hbr.2; omega)) _ _ (s1.trans s2) (r1.mono s2)
    · walk_at "go"
      refine q2 (fun hp => hbr ⟨rfl, ?_⟩) _ (s1.trans s2)
      rw [hc.mpr hp]
theorem k_shrunk {H : Hp} {Q : VK} {E : XK} {a : Addr} {n b f : Nat} (r : RT K H a n b) (h1 : 1 ≤ f) (h2 : f ∣ n) (q1 : Per n b (n / f) → ∀ (p : Addr) (H' : Hp), Same H H' → RT K H' p (n / f) (b % 2 ^ (n / f)) → Q (.ref p) H')
  (q2 : ¬ Per n b (n / f) → ∀ H', Same H H' → Q (.ref a) H') : sp_shrunk K [.ref a, .int (f : Int)] H Q E := ⟨a, n, b, f, rfl, r, h1, h2, q1, q2⟩

/-! ### least -/
def sp_least (K : PySem.W.Frag) : Sp := fun vs H Q _ => ∃ (a : Addr) (n b : Nat), vs = [.ref a] ∧ RT K H a n b ∧
  ∀ (p : Addr) (H' : Hp) (k c : Nat), Same H H' → RT K H' p k c → k ∣ n → (∀ d, hold k c d = hold n b d) → Per n b k → (∀ j, Per n b j → k ∣ j) → Q (.ref p) H'
theorem ok_least (T : Txt K mg) : FnOk P w K mg base CX0 4 T.a_least T.fd_least ["turn"] (sp_least K) := by
  refine T.F_least.ok sc_least (fun vs H Q E h => ?_) (fun cdv A outer s H vs Q E hr h => ?_)
  · obtain ⟨_, _, _, rfl, _⟩ := h; rfl
  · obtain ⟨a, n, b, rfl, r, q⟩ := h
    have hu := hr.units
    have ht := r.t
    have hn := r.n1
    have hn2 := r.n2
    obtain ⟨P, hP1, hP2, hP3⟩ := least_per (b := b) hn
    refine ⟨_, (pss_cons (ps_set (i := 1) sc_least.nd rfl (Or.inl rfl) (pe_ix (kb_ix K) (pv 0) pe_int (fun _ _ => rfl)))
        (pss_cons (ps_set (i := 2) sc_least.nd rfl (Or.inl rfl) pe_int)
        (pss_cons (ps_while PassesOwn.never (pt_cmpR op_gt (pv 1) pe_int (nomark _)) (pss_cons (ps_if (pt_cmpR op_gt (pe_op op_mulX (pv 2) (pv 2)) (pv 1) (nomark _)) (pss_one (ps_set (i := 2) sc_least.nd rfl (Or.inl rfl) (pv 1))) pss_nil)
        (pss_one (ps_if (pt_cmpR (kb_eq K (hu := hu)) (pe_op op_mod (pv 1) (pv 2)) pe_int (nomark _)) (pss_cons (ps_set (i := 1) sc_least.nd rfl (Or.inl rfl) (pe_op op_fdivW (pv 1) (pv 2)))
        (pss_one (ps_set (i := 0) sc_least.nd rfl (Or.inl rfl) (pe_call (ok_shrunk T) (hr.mono (by decide)) (by rfl) T.g_shrunk T.F_shrunk.kp T.b_shrunk .nil pass0 (pa_cons (pv 0) (pa_cons (pv 2) pa_nil)))))) (pss_one (ps_set (i := 2) sc_least.nd rfl (Or.inl rfl) (pe_op op_addA (pv 2) pe_int)))))))
        (pss_one (ps_ret (pv 0)))))), ?_⟩
    walk_at "go"
    with_reducible apply k_seqW
    refine k_while (fun m σ' H' => ∃ (p : Addr) (k c z f : Nat), σ' = [some (.ref p), some (.int (z : Int)), some (.int (f : Int))] ∧ Same H H' ∧ RT K H' p k c ∧ k ∣ n ∧ (∀ d, hold k c d = hold n b d) ∧ Per n b k ∧
        1 ≤ z ∧ z ≤ n ∧ 2 ≤ f ∧ f ≤ n + 2 ∧ z ∣ k ∧ (k / P ∣ z) ∧ (∀ d, d ∣ z → d = 1 ∨ f ≤ d) ∧ m = z * (n + 3) + (n + 3 - f)) _
      ⟨a, n, b, n, 2, rfl, Same.refl _, r, Nat.dvd_refl n, fun _ => rfl, per_size, hn, Nat.le_refl n, Nat.le_refl 2, by omega, Nat.dvd_refl n, Nat.div_dvd_of_dvd (hP3 n per_size), fun d hd => by
        have := Nat.pos_of_dvd_of_pos hd hn; omega, rfl⟩ ?_
    rintro m _ H1 ⟨p, k, c, z, f, rfl, s1, r1, hkn, hkh, hkp, hz1, hz2, hf1, hf2, hzk, hkz, hzf, rfl⟩
    have ht1 := r1.t
    have hk1 := r1.n1
    have hk2 := r1.n2
    walk_at "go"
    refine if_dec (fun hbr => ?_) (fun hbr => ?_)
    · apply k_turn
      -- the part: the divisor at hand, or what is left, where that is prime
      have sf : Sm 200 (f : Int) := sm41 (by omega) (by omega)
      with_reducible refine k_cutI (fun σ' H' => ∃ g : Nat, σ' = [some (.ref p), some (.int (z : Int)), some (.int (g : Int))] ∧ H1 = H' ∧ 2 ≤ g ∧ g ≤ z ∧ f ≤ g ∧ (∀ d, d ∣ z → d = 1 ∨ g ≤ d ∨ (f ≤ d ∧ g = z)) ∧ (g ∣ z → ∀ d, d ∣ g → d = 1 ∨ d = g) ∧ (g ∣ z ∨ g = f)) (fun N hN => ?_) ?_
      · walk_at "go"
        have ef : (f : Int) * (f : Int) = ((f * f : Nat) : Int) := by rw [Int.natCast_mul]
        rw [ef]
        refine if_dec (fun hb2 => ?_) (fun hb2 => ?_)
        · walk_at "go"
          have hzp : ∀ d, d ∣ z → d = 1 ∨ d = z := fun d hd => by
            obtain ⟨e, he⟩ := hd
            rcases hzf d ⟨e, he⟩ with h | h
            · exact .inl h
            · rcases hzf e ⟨d, by rw [Nat.mul_comm]; exact he⟩ with h2 | h2
              · right; rw [h2, Nat.mul_one] at he; exact he.symm
              · have := Nat.mul_le_mul h h2
                omega
          refine hN _ _ ⟨z, rfl, rfl, by omega, Nat.le_refl z, ?_, fun d hd => ?_, fun _ => hzp, .inl (Nat.dvd_refl z)⟩
          · rcases hzf z (Nat.dvd_refl z) with h | h <;> omega
          · rcases hzf d hd with h | h
            · exact .inl h
            · exact .inr (.inr ⟨h, rfl⟩)
        · walk_at "go"
          have hfz : f ≤ z := by
            have : f * 1 ≤ f * f := Nat.mul_le_mul_left f (by omega)
            omega
          refine hN _ _ ⟨f, rfl, rfl, hf1, hfz, Nat.le_refl f, fun d hd => ?_, fun hg d hd => ?_, .inr rfl⟩
          · rcases hzf d hd with h | h
            · exact .inl h
            · exact .inr (.inl h)
          · rcases hzf d (Nat.dvd_trans hd hg) with h | h
            · exact .inl h
            · right
              have := Nat.le_of_dvd (by omega) hd
              omega
      rintro _ _ ⟨g, rfl, rfl, hg1, hg2, hg3, hg4, hg5, hg6⟩
      have ez : (z : Int) / (g : Int) = ((z / g : Nat) : Int) := by rw [Int.natCast_ediv]
      have em : (z : Int) % (g : Int) = ((z % g : Nat) : Int) := by rw [Int.natCast_emod]
      with_reducible apply k_if
      walk_at "go"
      rw [em]
      refine if_dec (fun hb3 => ?_) (fun hb3 => ?_)
      · have hgz : g ∣ z := Nat.dvd_of_mod_eq_zero (by omega)
        walk_at "go"
        rw [ez]
        have hzg : z / g < z := Nat.div_lt_self (by omega) (by omega)
        have hzg1 : 1 ≤ z / g := Nat.div_pos hg2 (by omega)
        have hgk : g ∣ k := Nat.dvd_trans hgz hzk
        have ezz : g * (z / g) = z := Nat.mul_div_cancel' hgz
        have ms : ∀ (g' : Nat), 2 ≤ g' → g' ≤ n + 2 → z / g * (n + 3) + (n + 3 - g') < z * (n + 3) + (n + 3 - f) := fun g' h1 h2 => by
          have : (z / g + 1) * (n + 3) ≤ z * (n + 3) := Nat.mul_le_mul_right _ hzg
          rw [Nat.add_mul, Nat.one_mul] at this
          omega
        have hzf' : ∀ d, d ∣ z / g → d = 1 ∨ g ≤ d := fun d hd => by
          have hdz : d ∣ z := Nat.dvd_trans hd (Nat.div_dvd_of_dvd hgz)
          rcases hg4 d hdz with h | h | h
          · exact .inl h
          · exact .inr h
          · left
            rw [← h.2, Nat.div_self (by omega)] at hd
            exact Nat.dvd_one.mp hd
        refine k_shrunk r1 (by omega) hgk (fun hper p2 H2 s2 r2 => ?_) (fun hper H2 s2 => ?_)
        · walk_at "go"
          have hper' : Per n b (k / g) := fun d => by rw [← hkh, ← hkh]; exact hper d
          have hkg1 : 1 ≤ k / g := r2.n1
          refine ⟨_, ms g hg1 (by omega), p2, k / g, c % 2 ^ (k / g), z / g, g, rfl, s1.trans s2, r2, Nat.dvd_trans (Nat.div_dvd_of_dvd hgk) hkn, fun d => ?_, hper', hzg1, by omega, hg1, by omega, ?_, ?_, hzf', rfl⟩
          · rw [cut_hold hkg1 (Nat.div_le_self k g), per_mod hper, hkh]
          · exact Nat.div_dvd_div hgz hzk
          · have hPk : P ∣ k / g := hP3 _ hper'
            -- (k / g) / P = (k / P) / g
            obtain ⟨w', hw'⟩ := hPk
            obtain ⟨y, hy⟩ := hkz
            have e1 : k = g * (k / g) := (Nat.mul_div_cancel' hgk).symm
            have e2 : k / P = g * w' := by
              rw [e1, hw', ← Nat.mul_assoc, Nat.mul_comm g P, Nat.mul_assoc, Nat.mul_div_cancel_left _ (by omega)]
            have e3 : k / g / P = w' := by rw [hw', Nat.mul_div_cancel_left _ (by omega)]
            rw [e3]
            rw [e2] at hy
            refine ⟨y, ?_⟩
            rw [hy, Nat.mul_assoc, Nat.mul_div_cancel_left _ (by omega)]
        · walk_at "go"
          refine ⟨_, ms g hg1 (by omega), p, k, c, z / g, g, rfl, s1.trans s2, r1.mono s2, hkn, hkh, hkp, hzg1, by omega, hg1, by omega, Nat.dvd_trans (Nat.div_dvd_of_dvd hgz) hzk, ?_, hzf', rfl⟩
          refine prime_step (hg5 hgz) (by rw [ezz]; exact hkz) (fun hgd => hper ?_)
          -- g divides k / P: then k / g is a multiple of P
          obtain ⟨y, hy⟩ := hgd
          have hPk : P ∣ k := hP3 _ hkp
          have e1 : k = P * (g * y) := by rw [← hy, Nat.mul_div_cancel' hPk]
          have e2 : k / g = P * y := by
            rw [e1, ← Nat.mul_assoc, Nat.mul_comm P g, Nat.mul_assoc, Nat.mul_div_cancel_left _ (by omega)]
          intro d
          rw [hkh, hkh, e2, Int.natCast_mul]
          exact per_mul hP2 y d
      · walk_at "go"
        have hgf : g = f := by
          rcases hg6 with h | h
          · exact absurd (by have := Nat.mod_eq_zero_of_dvd h; omega) hb3
          · exact h
        subst hgf
        have hgz2 : g ≠ z := fun e => hb3 (by rw [e, Nat.mod_self]; rfl)
        refine ⟨_, ?_, p, k, c, z, g + 1, rfl, s1, r1, hkn, hkh, hkp, hz1, hz2, by omega, by omega, hzk, hkz, fun d hd => ?_, rfl⟩
        · omega
        · rcases hzf d hd with h | h
          · exact .inl h
          · by_cases e : d = g
            · subst e
              exact absurd (by have := Nat.mod_eq_zero_of_dvd hd; omega) hb3
            · right; omega
    · have hz : z = 1 := by omega
      subst hz
      walk_at "go"
      have hPk : P ∣ k := hP3 _ hkp
      have hkP : k = P := by
        have h1 := Nat.dvd_one.mp hkz
        have h2 := Nat.mul_div_cancel' hPk
        rw [h1, Nat.mul_one] at h2
        exact h2.symm
      exact q p H1 k c s1 r1 hkn hkh hkp (fun j hj => hkP ▸ hP3 j hj)
theorem k_least {H : Hp} {Q : VK} {E : XK} {a : Addr} {n b : Nat} (r : RT K H a n b) (q : ∀ (p : Addr) (H' : Hp) (k c : Nat), Same H H' → RT K H' p k c → k ∣ n → (∀ d, hold k c d = hold n b d) → Per n b k → (∀ j, Per n b j → k ∣ j) → Q (.ref p) H') : sp_least K [.ref a] H Q E := ⟨a, n, b, rfl, r, q⟩

/-! ### same -/
def sp_same (K : PySem.W.Frag) : Sp := fun vs H Q _ => ∃ (a a2 : Addr) (n b m c : Nat) (d : Int), vs = [.ref a, .ref a2, .int d] ∧ RT K H a n b ∧ RT K H a2 m c ∧
  (∀ (p t : Addr) (H' : Hp) (k x : Nat), Same H H' → H' p = some (.tup [.str "same", .ref t]) → RT K H' t k x → k ∣ Nat.gcd n m → (∀ e, hold k x e = hold n b e) → (∀ e, hold k x e = hold m c e) → (∀ j, Per k x j → k ∣ j) → Q (.ref p) H') ∧
  (∀ (p : Addr) (H' : Hp) (k : Nat), Same H H' → H' p = some (.tup [.str "parted", .int (d + k)]) → k < n + m - Nat.gcd n m → hold n b (d + k) ≠ hold m c (d + k) → (∀ j : Nat, j < k → hold n b (d + j) = hold m c (d + j)) → Q (.ref p) H')
theorem ok_same (T : Txt K mg) : FnOk P w K mg base CX0 5 T.a_same T.fd_same ["one", "other", "day"] (sp_same K) := by
  refine T.F_same.ok sc_same (fun vs H Q E h => ?_) (fun cdv A outer s H vs Q E hr h => ?_)
  · obtain ⟨_, _, _, _, _, _, _, rfl, _⟩ := h; rfl
  · obtain ⟨a, a2, n, b, m, c, d, rfl, r, r2, q1, q2⟩ := h
    have hu := hr.units
    have ht := r.t
    have ht2 := r2.t
    have hn := r.n1
    have hn2 := r.n2
    have hm := r2.n1
    have hm2 := r2.n2
    have hg : 0 < Nat.gcd n m := Nat.gcd_pos_of_pos_left _ hn
    have hgn : Nat.gcd n m ≤ n := Nat.le_of_dvd hn (Nat.gcd_dvd_left n m)
    refine ⟨_, (pss_cons (ps_set (i := 3) sc_same.nd rfl (Or.inl rfl) (pe_call (ok_divisor T) (hr.mono (by decide)) (by rfl) T.g_divisor T.F_divisor.kp T.b_divisor .nil pass0 (pa_cons (pe_ix (kb_ix K) (pv 0) pe_int (fun _ _ => rfl)) (pa_cons (pe_ix (kb_ix K) (pv 1) pe_int (fun _ _ => rfl)) pa_nil))))
        (pss_cons (ps_set (i := 4) sc_same.nd rfl (Or.inl rfl) (pe_call (ok_cut_to T) (hr.mono (by decide)) (by rfl) T.g_cut_to T.F_cut_to.kp T.b_cut_to .nil pass0 (pa_cons (pv 0) (pa_cons (pv 3) pa_nil))))
        (pss_cons (ps_if (pt_val (pe_call (ok_alike_by T) (hr.mono (by decide)) (by rfl) T.g_alike_by T.F_alike_by.kp T.b_alike_by .nil pass0 (pa_cons (pv 4) (pa_cons (pv 0) (pa_cons (pv 1) pa_nil))))) (pss_one (ps_ret (pe_tup (pa_cons pe_str (pa_cons (pe_call (ok_least T) (hr.mono (by decide)) (by rfl) T.g_least T.F_least.kp T.b_least .nil pass0 (pa_cons (pv 4) pa_nil)) pa_nil))))) pss_nil)
        (pss_cons (ps_set (i := 5) sc_same.nd rfl (Or.inl rfl) (pe_op op_sub (pe_op op_addA (pe_ix (kb_ix K) (pv 0) pe_int (fun _ _ => rfl)) (pe_ix (kb_ix K) (pv 1) pe_int (fun _ _ => rfl))) (pv 3)))
        (pss_cons (ps_set (i := 6) sc_same.nd rfl (Or.inl rfl) (pe_op op_xor (pe_call (ok_row_from T) (hr.mono (by decide)) (by rfl) T.g_row_from T.F_row_from.kp T.b_row_from .nil pass0 (pa_cons (pv 0) (pa_cons (pv 2) (pa_cons (pv 5) pa_nil)))) (pe_call (ok_row_from T) (hr.mono (by decide)) (by rfl) T.g_row_from T.F_row_from.kp T.b_row_from .nil pass0 (pa_cons (pv 1) (pa_cons (pv 2) (pa_cons (pv 5) pa_nil))))))
        (pss_one (ps_ret (pe_tup (pa_cons pe_str (pa_cons (pe_op op_sub (pe_op op_addA (pv 2) (pe_bits (pe_op op_and (pv 6) (pe_un un_neg (pv 6))))) pe_int) pa_nil)))))))))), ?_⟩
    walk_at "go"
    obtain ⟨g, eg⟩ : ∃ g, g = Nat.gcd n m := ⟨_, rfl⟩
    rw [show ((Int.gcd (n : Int) (m : Int) : Nat) : Int) = (g : Int) by rw [eg, Int.gcd_natCast_natCast]]
    refine k_cut_to r (show 1 ≤ g by omega) (by omega) fun p1 H1 s1 r1 => ?_
    have ra := r.mono s1
    have rb := r2.mono s1
    walk_at "go"
    have hal : ∀ e, hold g (b % 2 ^ g) e = hold n b (e % (g : Int)) := fun e => cut_hold (by omega) (by omega) e
    with_reducible apply k_seqI
    walk_at "go"
    refine k_alike_by r1 ra rb (eg ▸ Nat.gcd_dvd_left n m) (eg ▸ Nat.gcd_dvd_right n m) fun x H2 s2 hx => ?_
    have r12 := r1.mono s2
    walk_at "go"
    refine if_b (fun hxt => ?_) (fun hxf => ?_)
    · obtain ⟨h1, h2⟩ := hx.mp hxt
      walk_at "go"
      refine k_least r12 fun p3 H3 k y s3 r3 hk1 hk2 hk3 hk4 => ?_
      walk_at "go"
      rename_i p4 H4 hn4 s4 t4
      refine q1 p4 p3 H4 k y (((s1.trans s2).trans s3).trans s4) t4 (r3.mono s4) (eg ▸ hk1) (fun e => (hk2 e).trans (h1 e)) (fun e => (hk2 e).trans (h2 e)) fun j hj => hk4 j fun e => ?_
      rw [← hk2, ← hk2]; exact hj e
    · have ht1' := (ra.mono s2).t
      have ht2' := (rb.mono s2).t
      walk_at "go"
      have hL : (n : Int) + (m : Int) - (g : Int) = ((n + m - g : Nat) : Int) := by omega
      rw [hL]
      refine k_row_from (ra.mono s2) (by omega) fun H3 s3 => ?_
      walk_at "go"
      refine k_row_from ((rb.mono s2).mono s3) (by omega) fun H4 s4 => ?_
      walk_at "go"
      rename_i p5 H5 hn5 s5 t5
      have hne : ofB (fun i => hold n b (d + i)) (n + m - g) ^^^ ofB (fun i => hold m c (d + i)) (n + m - g) ≠ 0 := fun h0 => by
        have hall : ∀ i : Nat, i < n + m - Nat.gcd n m → hold n b (d + i) = hold m c (d + i) := fun i hi => by
          have := congrArg (fun z => Nat.testBit z i) h0
          simp only [Nat.testBit_xor, tb_ofB, Nat.zero_testBit, ← eg] at this
          rw [decide_eq_true (show i < n + m - g by omega)] at this
          cases h1 : hold n b (d + i) <;> cases h2 : hold m c (d + i) <;> rw [h1, h2] at this <;> first | rfl | exact absurd this (by decide)
        obtain ⟨f1, f2⟩ := rounds_alike hn hm hall
        rw [← eg] at f1 f2
        have f3 : ∀ e : Int, hold n b (e % (g : Int)) = hold n b e := fun e => by
          rw [f1 (e % (g : Int)), f1 e]
          congr 2
          rw [Int.emod_sub_emod]
        have : x = true := hx.mpr ⟨fun e => by rw [hal, f3], fun e => by rw [hal, f3, f1 e, f2 e]⟩
        rw [hxf] at this; exact absurd this (by decide)
      obtain ⟨k, e1, e2, e3⟩ := low_place (x := ofB (fun i => hold n b (d + i)) (n + m - g) ^^^ ofB (fun i => hold m c (d + i)) (n + m - g)) (by omega)
      rw [e1, show d + ((k + 1 : Nat) : Int) - 1 = d + k by omega] at t5
      have hk : k < n + m - g := by
        by_cases h : k < n + m - g
        · exact h
        · rw [Nat.testBit_xor, tb_ofB, tb_ofB, decide_eq_false h] at e2; simp at e2
      refine q2 p5 H5 k ((((s1.trans s2).trans s3).trans s4).trans s5) t5 (eg ▸ hk) (fun h => ?_) fun j hj => ?_
      · rw [Nat.testBit_xor, tb_ofB, tb_ofB, decide_eq_true hk, h] at e2
        simp at e2
      · have := e3 j hj
        rw [Nat.testBit_xor, tb_ofB, tb_ofB, decide_eq_true (show j < n + m - g by omega)] at this
        cases h1 : hold n b (d + j) <;> cases h2 : hold m c (d + j) <;> rw [h1, h2] at this <;> first | rfl | exact absurd this (by decide)
theorem k_same {K : PySem.W.Frag} {H : Hp} {Q : VK} {E : XK} {a a2 : Addr} {n b m c : Nat} {d : Int} (r : RT K H a n b) (r2 : RT K H a2 m c)
  (q1 : ∀ (p t : Addr) (H' : Hp) (k x : Nat), Same H H' → H' p = some (.tup [.str "same", .ref t]) → RT K H' t k x → k ∣ Nat.gcd n m → (∀ e, hold k x e = hold n b e) → (∀ e, hold k x e = hold m c e) → (∀ j, Per k x j → k ∣ j) → Q (.ref p) H')
  (q2 : ∀ (p : Addr) (H' : Hp) (k : Nat), Same H H' → H' p = some (.tup [.str "parted", .int (d + k)]) → k < n + m - Nat.gcd n m → hold n b (d + k) ≠ hold m c (d + k) → (∀ j : Nat, j < k → hold n b (d + j) = hold m c (d + j)) → Q (.ref p) H') : sp_same K [.ref a, .ref a2, .int d] H Q E := ⟨a, a2, n, b, m, c, d, rfl, r, r2, q1, q2⟩

/-! ### _law_on -/
abbrev sp_Lon (K : PySem.W.Frag) : Sp := fun vs H Q _ => ∃ (a : Addr) (n b : Nat) (d : Int), vs = [.ref a, .int d] ∧ RT K H a n b ∧ Q (.bl (hold n b d)) H
theorem ok_Lon (T : Txt K mg) : FnOk P w K mg base CX0 1 T.a_Lon T.fd_Lon ["_law_turn", "_law_day"] (sp_Lon K) := by
  refine T.F_Lon.ok sc_Lon (fun vs H Q E h => ?_) (fun cdv A outer s H vs Q E hr h => ?_)
  · obtain ⟨_, _, _, _, rfl, _⟩ := h; rfl
  · obtain ⟨a, n, b, d, rfl, r, q⟩ := h
    have hu := hr.units
    have ht := r.t
    have hn := r.n1
    refine ⟨_, (pss_one (ps_ret (pe_cmpR (kb_eq K (hu := hu)) (pe_op op_mod (pe_op op_shr (pe_ix (kb_ix K) (pv 0) pe_int (fun _ _ => rfl)) (pe_op op_mod (pv 1) (pe_ix (kb_ix K) (pv 0) pe_int (fun _ _ => rfl)))) pe_int) pe_int (nomark _)))), ?_⟩
    walk_at "go"
    rw [on_valc2]
    exact q
theorem k_Lon {H : Hp} {Q : VK} {E : XK} {a : Addr} {n b : Nat} {d : Int} (r : RT K H a n b) (q : Q (.bl (hold n b d)) H) : sp_Lon K [.ref a, .int d] H Q E := ⟨a, n, b, d, rfl, r, q⟩
local macro_rules | `(tactic| walk_at "st") => `(tactic| first | ((with_reducible apply k_Lon); (· walk_at "hr")) | fail)

/-! ### _law_least -/
def sp_Lleast (K : PySem.W.Frag) : Sp := fun vs H Q _ => ∃ (a : Addr) (n b : Nat), vs = [.ref a] ∧ RT K H a n b ∧ n ≤ 100000 ∧ (∀ j, Per n b j → n ∣ j) ∧ ∀ H', Same H H' → Q (.bl true) H'
theorem ok_Lleast (T : Txt K mg) : FnOk P w K mg base CX0 2 T.a_Lleast T.fd_Lleast ["_law_turn"] (sp_Lleast K) := by
  refine T.F_Lleast.ok sc_Lleast (fun vs H Q E h => ?_) (fun cdv A outer s H vs Q E hr h => ?_)
  · obtain ⟨_, _, _, rfl, _⟩ := h; rfl
  · obtain ⟨a, n, b, rfl, r, hnb, hp, q⟩ := h
    have hu := hr.units
    have ht := r.t
    have hn := r.n1
    refine ⟨_, (pss_cons (ps_for PassesOwn.never rfl (pi_range2L (by rfl) T.n_range (pa_cons pe_int (pa_cons (pe_ix (kb_ix K) (pv 0) pe_int (fun _ _ => rfl)) pa_nil))) (pg_name (i := 1) sc_Lleast.nd rfl (Or.inr rfl)) (pss_one (ps_if (pt_cmpR (kb_eq K (hu := hu)) (pe_op op_mod (pe_ix (kb_ix K) (pv 0) pe_int (fun _ _ => rfl)) (pv 1)) pe_int (nomark _)) (pss_one (ps_if (pt_cmpR (kb_eq K (hu := hu)) (pe_lc (own := [("_law_k", 2)]) (g := gName 2) rfl sc_Lleast.nd (pi_range1 (by rfl) T.n_range (pa_cons (pe_ix (kb_ix K) (pv 0) pe_int (fun _ _ => rfl)) pa_nil)) (blkOk_by (N := ["_law_turn", "_law_size", "_law_k"]) (sc := defScope s_Lleast) (by decide +kernel)) (fun _ _ _ _ _ => pg_name (i := 2) sc_Lleast.nd rfl (Or.inl rfl)) (fun _ _ _ _ _ => pts_one (pt_cmpR (kb_ne K (hu := hu)) (pe_call (ok_Lon T) (hr.mono (by decide)) (by rfl) T.g_Lon T.F_Lon.kp T.b_Lon .nil pass0 (pa_cons (pv 0) (pa_cons (pv 2) pa_nil))) (pe_call (ok_Lon T) (hr.mono (by decide)) (by rfl) T.g_Lon T.F_Lon.kp T.b_Lon .nil pass0 (pa_cons (pv 0) (pa_cons (pe_op op_addA (pv 2) (pv 1)) pa_nil))) (nomark _))) (fun _ _ _ _ _ => (pv 2))) (pe_lst pa_nil) (nomark _)) (pss_one (ps_ret pe_bl)) pss_nil)) pss_nil)))
        (pss_one (ps_ret pe_bl))), ?_⟩
    with_reducible apply k_seqF
    with_reducible apply k_for
    walk_at "go"
    refine for_range (fun i σ' H' => ∃ (u v : Option V), σ' = [some (.ref a), u, v] ∧ Same H H') ⟨none, none, rfl, Same.refl _⟩ (fun i σ' H2 hi hW => ?_) (fun σ' H2 hW => ?_)
    · obtain ⟨u, v, rfl, s2⟩ := hW
      have r2 := r.mono s2
      have ht2 := r2.t
      walk_at "go"
      with_reducible apply k_if
      walk_at "go"
      refine if_dec (fun h0 => ?_) (fun h0 => ?_)
      · walk_at "go"
        with_reducible apply k_if
        walk_at "go"
        rw [Int.toNat_natCast]
        refine k_lcrf (fun k : Nat => !decide (hold n b (0 + (k : Int)) = hold n b (0 + (k : Int) + (1 + (i : Int))))) (fun k : Nat => V.int (0 + (k : Int))) (by omega) (fun k H3 R hk s3 hq => ?_) (fun k H3 R hk hp s3 hq => ?_) (fun D H3 _ s3 h3 => ?_)
        · have r3 := r2.mono s3
          walk_at "go"
          exact hq _ (Same.refl _)
        · walk_at "go"
          exact hq _ (Same.refl _)
        · walk_at "go"
          rename_i q4 H4 _ s4 t4
          have h3' := s4 _ _ h3
          have el : ((List.range n).filter fun k : Nat => !decide (hold n b (0 + (k : Int)) = hold n b (0 + (k : Int) + (1 + (i : Int))))).map (fun k : Nat => V.int (0 + (k : Int))) = ((((List.range n).filter fun k : Nat => !decide (hold n b (0 + (k : Int)) = hold n b (0 + (k : Int) + (1 + (i : Int))))).map fun k : Nat => 0 + (k : Int))).map V.int := by
            rw [List.map_map]; rfl
          rw [el] at h3'
          refine k_eqE (SqL.of h3') (SqL.of t4) ?_
          walk_at "go"
          refine if_dec (fun hnil => ?_) (fun hnil => ?_)
          · exfalso
            have hper : Per n b (1 + i) := fun d => by
              obtain ⟨g1, g2⟩ := mod_lt' hn d
              have hin : ¬ (d % (n : Int)).toNat ∈ (List.range n).filter fun k : Nat => !decide (hold n b (0 + (k : Int)) = hold n b (0 + (k : Int) + (1 + (i : Int)))) := fun h => by
                rw [List.map_eq_nil_iff.mp hnil] at h; exact absurd h List.not_mem_nil
              have h5 : hold n b (0 + (((d % (n : Int)).toNat : Nat) : Int)) = hold n b (0 + (((d % (n : Int)).toNat : Nat) : Int) + (1 + (i : Int))) := by
                refine Classical.byContradiction fun hne => hin (List.mem_filter.mpr ⟨List.mem_range.mpr g1, by rw [decide_eq_false hne]; rfl⟩)
              rw [g2, Int.zero_add, hold_per] at h5
              rw [h5]
              exact hold_eq (by rw [show ((1 + i : Nat) : Int) = 1 + (i : Int) by omega, Int.emod_add_emod])
            have := Nat.le_of_dvd (by omega) (hp _ hper)
            omega
          · walk_at "go"
            exact ⟨_, _, rfl, (s2.trans s3).trans s4⟩
      · walk_at "go"
        exact ⟨_, _, rfl, s2⟩
    · obtain ⟨u, v, rfl, s2⟩ := hW
      walk_at "go"
      exact q _ s2
theorem k_Lleast {K : PySem.W.Frag} {H : Hp} {Q : VK} {E : XK} {a : Addr} {n b : Nat} (r : RT K H a n b) (hnb : n ≤ 100000) (hp : ∀ j, Per n b j → n ∣ j) (q : ∀ H', Same H H' → Q (.bl true) H') : sp_Lleast K [.ref a] H Q E := ⟨a, n, b, rfl, r, hnb, hp, q⟩

/-! ### _law_whole -/
def sp_Lwhole (K : PySem.W.Frag) : Sp := fun vs H Q _ => ∃ i, vs = [.int i] ∧ Q (.bl true) H
theorem ok_Lwhole (T : Txt K mg) : FnOk P w K mg base CX0 1 T.a_Lwhole T.fd_Lwhole ["_law_found"] (sp_Lwhole K) := by
  refine T.F_Lwhole.ok sc_Lwhole (fun vs H Q E h => ?_) (fun cdv A outer s H vs Q E hr h => ?_)
  · obtain ⟨_, rfl, _⟩ := h; rfl
  · obtain ⟨i, rfl, q⟩ := h
    refine ⟨_, (pss_one (ps_ret (pe_and (pe_callB (kb_isi K) (by rfl) T.n_isinstance (by decide +kernel) (pa_cons (pv 0) (pa_cons (pe_bltn (v := .ty "int") (by rfl) T.n_int (by decide +kernel) rfl) pa_nil))) (pe_one (pe_not (pe_callB (kb_isi K) (by rfl) T.n_isinstance (by decide +kernel) (pa_cons (pv 0) (pa_cons (pe_bltn (v := .ty "bool") (by rfl) T.n_bool (by decide +kernel) rfl) pa_nil)))))))), ?_⟩
    walk_at "go"
    exact q
theorem k_whole {H : Hp} {Q : VK} {E : XK} {i : Int} (q : Q (.bl true) H) : sp_Lwhole K [.int i] H Q E := ⟨i, rfl, q⟩
local macro_rules | `(tactic| walk_at "st") => `(tactic| first | (with_reducible apply k_whole) | fail)

/-! ### _law_round_of -/
def sp_Lround_of (K : PySem.W.Frag) : Sp := fun vs H Q _ => ∃ (a : Addr) (n b : Nat), vs = [.ref a] ∧ RT K H a n b ∧ Q (.bl true) H
theorem ok_Lround_of (T : Txt K mg) : FnOk P w K mg base CX0 2 T.a_Lround_of T.fd_Lround_of ["_law_found"] (sp_Lround_of K) := by
  refine T.F_Lround_of.ok sc_Lround_of (fun vs H Q E h => ?_) (fun cdv A outer s H vs Q E hr h => ?_)
  · obtain ⟨_, _, _, rfl, _⟩ := h; rfl
  · obtain ⟨a, n, b, rfl, r, q⟩ := h
    have hu := hr.units
    have ht := r.t
    have hn := r.n1
    refine ⟨_, (pss_cons (ps_if (PW.pt (pw_or (pt_not (pt_val (pe_callB (kb_isi K) (by rfl) T.n_isinstance (by decide +kernel) (pa_cons (pv 0) (pa_cons (pe_bltn (v := .ty "tuple") (by rfl) T.n_tuple (by decide +kernel) rfl) pa_nil))))) (pw_or1 (pt_cmpR (kb_ne K (hu := hu)) (pe_callB (kb_len K) (by rfl) T.n_len (by decide +kernel) (pa_cons (pv 0) pa_nil)) pe_int (nomark _))))) (pss_one (ps_ret pe_bl)) pss_nil)
        (pss_cons (ps_if (PW.pt (pw_or (pt_not (pt_val (pe_call (ok_Lwhole T) (hr.mono (by decide)) (by rfl) T.g_Lwhole T.F_Lwhole.kp T.b_Lwhole .nil pass0 (pa_cons (pe_ix (kb_ix K) (pv 0) pe_int (fun _ _ => rfl)) pa_nil)))) (pw_or1 (pt_not (pt_val (pe_call (ok_Lwhole T) (hr.mono (by decide)) (by rfl) T.g_Lwhole T.F_Lwhole.kp T.b_Lwhole .nil pass0 (pa_cons (pe_ix (kb_ix K) (pv 0) pe_int (fun _ _ => rfl)) pa_nil))))))) (pss_one (ps_ret pe_bl)) pss_nil)
        (pss_one (ps_ret (pe_and (pe_cmpR op_ge (pe_ix (kb_ix K) (pv 0) pe_int (fun _ _ => rfl)) pe_int (nomark _)) (pe_one (pe_cmpR op_ge (pe_ix (kb_ix K) (pv 0) pe_int (fun _ _ => rfl)) pe_int (nomark _)))))))), ?_⟩
    walk_at "run"
    exact fin_t (decide_eq_true (by omega)) q
theorem k_Lround_of {K : PySem.W.Frag} {H : Hp} {Q : VK} {E : XK} {a : Addr} {n b : Nat} (r : RT K H a n b) (q : Q (.bl true) H) : sp_Lround_of K [.ref a] H Q E := ⟨a, n, b, rfl, r, q⟩

/-! ### law -/
def sp_law (K : PySem.W.Frag) : Sp := fun vs H Q _ => ∃ (a : Addr) (ns : List Int), vs = [.ref a] ∧ SqL K H a (ns.map V.int) ∧ ns.length ≤ 63 ∧ (∀ z ∈ ns, Builtin.Int.intBits z ≤ 1048576) ∧ ∀ H', Q (.bl true) H'
set_option pp.maxSteps 400 in
theorem ok_law (T : Txt K mg) : FnOk P w K mg base CX0 6 T.a_law T.fd_law ["_law_script"] (sp_law K) := by
  refine T.F_law.ok sc_law (fun vs H Q E h => ?_) (fun cdv A outer s H vs Q E hr h => ?_)
  · obtain ⟨_, _, rfl, _⟩ := h; rfl
  · obtain ⟨a, ns, rfl, hS, hl, hb, q⟩ := h
    have hu := hr.units
    refine ⟨_, (pss_cons (ps_asg (pe_call (ok_Lpair T) (hr.mono (by decide)) (by rfl) T.g_Lpair T.F_Lpair.kp T.b_Lpair .nil pass0 (pa_cons (pv 0) pa_nil)) (pg_tup rfl (pgs_cons (pg_name (i := 1) sc_law.nd rfl (Or.inl rfl)) (pgs_cons (pg_name (i := 2) sc_law.nd rfl (Or.inl rfl)) pgs_nil))))
        (pss_cons (ps_set (i := 3) sc_law.nd rfl (Or.inl rfl) (pe_op op_sub (pe_op op_mod (pe_call (ok_Lcell_at T) (hr.mono (by decide)) (by rfl) T.g_Lcell_at T.F_Lcell_at.kp T.b_Lcell_at .nil pass0 (pa_cons (pv 0) (pa_cons pe_int pa_nil))) (pe_powc (n := 10000000000000000000000000000000000000000) (by decide +kernel))) (pe_powc (n := 1000000000000000000000000000000000000000) (by decide +kernel))))
        (pss_cons (ps_set (i := 4) sc_law.nd rfl (Or.inl rfl) (pe_call (ok_same T) (hr.mono (by decide)) (by rfl) T.g_same T.F_same.kp T.b_same .nil pass0 (pa_cons (pv 1) (pa_cons (pv 2) (pa_cons (pv 3) pa_nil)))))
        (pss_cons (ps_if (PW.pt (pw_or (pt_not (pt_val (pe_callB (kb_isi K) (by rfl) T.n_isinstance (by decide +kernel) (pa_cons (pv 4) (pa_cons (pe_bltn (v := .ty "tuple") (by rfl) T.n_tuple (by decide +kernel) rfl) pa_nil))))) (pw_or1 (pt_cmpR (kb_ne K (hu := hu)) (pe_callB (kb_len K) (by rfl) T.n_len (by decide +kernel) (pa_cons (pv 4) pa_nil)) pe_int (nomark _))))) (pss_one (ps_ret pe_bl)) pss_nil)
        (pss_cons (ps_if (pt_cmpR (kb_eq K (hu := hu)) (pe_ix (kb_ix K) (pv 4) pe_int (fun _ _ => rfl)) pe_str (nomark _)) (pss_one (ps_ret (pe_and (pe_call (ok_Lwhole T) (hr.mono (by decide)) (by rfl) T.g_Lwhole T.F_Lwhole.kp T.b_Lwhole .nil pass0 (pa_cons (pe_ix (kb_ix K) (pv 4) pe_int (fun _ _ => rfl)) pa_nil)) (pe_one (pe_cmpR (kb_ne K (hu := hu)) (pe_call (ok_Lon T) (hr.mono (by decide)) (by rfl) T.g_Lon T.F_Lon.kp T.b_Lon .nil pass0 (pa_cons (pv 1) (pa_cons (pe_ix (kb_ix K) (pv 4) pe_int (fun _ _ => rfl)) pa_nil))) (pe_call (ok_Lon T) (hr.mono (by decide)) (by rfl) T.g_Lon T.F_Lon.kp T.b_Lon .nil pass0 (pa_cons (pv 2) (pa_cons (pe_ix (kb_ix K) (pv 4) pe_int (fun _ _ => rfl)) pa_nil))) (nomark _)))))) pss_nil)
        (pss_cons (ps_if (PW.pt (pw_or (pt_cmpR (kb_ne K (hu := hu)) (pe_ix (kb_ix K) (pv 4) pe_int (fun _ _ => rfl)) pe_str (nomark _)) (pw_or1 (pt_not (pt_val (pe_call (ok_Lround_of T) (hr.mono (by decide)) (by rfl) T.g_Lround_of T.F_Lround_of.kp T.b_Lround_of .nil pass0 (pa_cons (pe_ix (kb_ix K) (pv 4) pe_int (fun _ _ => rfl)) pa_nil))))))) (pss_one (ps_ret pe_bl)) pss_nil)
        (pss_cons (ps_set (i := 5) sc_law.nd rfl (Or.inl rfl) (pe_ix (kb_ix K) (pv 4) pe_int (fun _ _ => rfl)))
        (pss_cons (ps_if (PW.pt (pw_or (pt_cmpR (kb_ne K (hu := hu)) (pe_op op_mod (pe_ix (kb_ix K) (pv 1) pe_int (fun _ _ => rfl)) (pe_ix (kb_ix K) (pv 5) pe_int (fun _ _ => rfl))) pe_int (nomark _)) (pw_or (pt_cmpR (kb_ne K (hu := hu)) (pe_op op_mod (pe_ix (kb_ix K) (pv 2) pe_int (fun _ _ => rfl)) (pe_ix (kb_ix K) (pv 5) pe_int (fun _ _ => rfl))) pe_int (nomark _)) (pw_or1 (pt_cmpR op_ge (pe_ix (kb_ix K) (pv 5) pe_int (fun _ _ => rfl)) (pe_op op_shlW pe_int (pe_ix (kb_ix K) (pv 5) pe_int (fun _ _ => rfl))) (nomark _)))))) (pss_one (ps_ret pe_bl)) pss_nil)
        (pss_cons (ps_set (i := 6) sc_law.nd rfl (Or.inl rfl) (pe_op op_sub (pe_op op_mod (pe_call (ok_Lcell_at T) (hr.mono (by decide)) (by rfl) T.g_Lcell_at T.F_Lcell_at.kp T.b_Lcell_at .nil pass0 (pa_cons (pv 0) (pa_cons pe_int pa_nil))) (pe_powc (n := 10000000000000000000000000000000000000000) (by decide +kernel))) (pe_powc (n := 1000000000000000000000000000000000000000) (by decide +kernel))))
        (pss_cons (ps_if (PW.pt (pw_or (pt_cmpR (kb_ne K (hu := hu)) (pe_call (ok_Lon T) (hr.mono (by decide)) (by rfl) T.g_Lon T.F_Lon.kp T.b_Lon .nil pass0 (pa_cons (pv 1) (pa_cons (pv 6) pa_nil))) (pe_call (ok_Lon T) (hr.mono (by decide)) (by rfl) T.g_Lon T.F_Lon.kp T.b_Lon .nil pass0 (pa_cons (pv 5) (pa_cons (pv 6) pa_nil))) (nomark _)) (pw_or1 (pt_cmpR (kb_ne K (hu := hu)) (pe_call (ok_Lon T) (hr.mono (by decide)) (by rfl) T.g_Lon T.F_Lon.kp T.b_Lon .nil pass0 (pa_cons (pv 2) (pa_cons (pv 6) pa_nil))) (pe_call (ok_Lon T) (hr.mono (by decide)) (by rfl) T.g_Lon T.F_Lon.kp T.b_Lon .nil pass0 (pa_cons (pv 5) (pa_cons (pv 6) pa_nil))) (nomark _))))) (pss_one (ps_ret pe_bl)) pss_nil)
        (pss_one (ps_ret (pe_call (ok_Lleast T) (hr.mono (by decide)) (by rfl) T.g_Lleast T.F_Lleast.kp T.b_Lleast .nil pass0 (pa_cons (pv 5) pa_nil)))))))))))))), ?_⟩
    walk_at "go"
    refine k_Lpair hb hS fun p p1 p2 H1 n b m c s1 t1 r1 r2 hn hm => ?_
    have hS1 := same_l s1 hS
    have hn1 := r1.n1
    have hm1 := r2.n1
    walk_at "go"
    rename_i c4 _ _
    generalize c4 % 10000000000000000000000000000000000000000 - 1000000000000000000000000000000000000000 = d at *
    refine k_same r1 r2 (fun p t H2 k x s2 h2 rt hk he1 he2 hk3 => ?_) (fun p H2 k s2 h2 hk hne hlow => ?_)
    · have r12 := r1.mono s2
      have r22 := r2.mono s2
      have ht1 := r12.t
      have ht2 := r22.t
      have ht3 := rt.t
      have hk1 := rt.n1
      have hS2 := same_l s2 hS1
      have hb3 := told_bits rt.lt
      have e1 : (n : Int) % (k : Int) = 0 := Int.emod_eq_zero_of_dvd (Int.natCast_dvd_natCast.mpr (Nat.dvd_trans hk (Nat.gcd_dvd_left n m)))
      have e2 : (m : Int) % (k : Int) = 0 := Int.emod_eq_zero_of_dvd (Int.natCast_dvd_natCast.mpr (Nat.dvd_trans hk (Nat.gcd_dvd_right n m)))
      have hkn : k ≤ n := Nat.le_of_dvd hn1 (Nat.dvd_trans hk (Nat.gcd_dvd_left n m))
      walk_at "run"
      refine k_Lround_of rt ?_
      walk_at "run"
      rename_i c5 _ _
      generalize c5 % 10000000000000000000000000000000000000000 - 1000000000000000000000000000000000000000 = f at *
      refine if_same ((he1 f).symm) ?_
      walk_at "run"
      refine if_same ((he2 f).symm) ?_
      walk_at "run"
      exact k_Lleast rt (by omega) hk3 fun H3 _ => q _
    · have ht1 := (r1.mono s2).t
      have ht2 := (r2.mono s2).t
      have hS2 := same_l s2 hS1
      walk_at "run"
      refine fin_t ?_ (q _)
      rw [decide_eq_false hne]; rfl

end
theorem all_mk {l : PySem.W.OpenLaw} {w : World} {K : PySem.W.Frag} {h : Heap} {mg : Str → Option Value} {fa : Addr} (X : K.In h) (G : h.Ns mainGlobals mg) (hfa : mg "law" = some (.ref fa))
    {f_Lcell_at : Addr} {od_Lcell_at an_Lcell_at : Option Addr} {sl_Lcell_at : Array (Option Value)} {oc_Lcell_at kV_Lcell_at dc_Lcell_at pm_Lcell_at cd_Lcell_at ct_Lcell_at : Value}
    {f_Llaid : Addr} {od_Llaid an_Llaid : Option Addr} {sl_Llaid : Array (Option Value)} {oc_Llaid kV_Llaid dc_Llaid pm_Llaid cd_Llaid ct_Llaid : Value}
    {f_Lbits : Addr} {od_Lbits an_Lbits : Option Addr} {sl_Lbits : Array (Option Value)} {oc_Lbits kV_Lbits dc_Lbits pm_Lbits cd_Lbits ct_Lbits : Value}
    {f_Lpair : Addr} {od_Lpair an_Lpair : Option Addr} {sl_Lpair : Array (Option Value)} {oc_Lpair kV_Lpair dc_Lpair pm_Lpair cd_Lpair ct_Lpair : Value}
    {f_divisor : Addr} {od_divisor an_divisor : Option Addr} {sl_divisor : Array (Option Value)} {oc_divisor kV_divisor dc_divisor pm_divisor cd_divisor ct_divisor : Value}
    {f_mask : Addr} {od_mask an_mask : Option Addr} {sl_mask : Array (Option Value)} {oc_mask kV_mask dc_mask pm_mask cd_mask ct_mask : Value}
    {f_cut_to : Addr} {od_cut_to an_cut_to : Option Addr} {sl_cut_to : Array (Option Value)} {oc_cut_to kV_cut_to dc_cut_to pm_cut_to cd_cut_to ct_cut_to : Value}
    {f_allowed : Addr} {od_allowed an_allowed : Option Addr} {sl_allowed : Array (Option Value)} {oc_allowed kV_allowed dc_allowed pm_allowed cd_allowed ct_allowed : Value}
    {f_stretched : Addr} {od_stretched an_stretched : Option Addr} {sl_stretched : Array (Option Value)} {oc_stretched kV_stretched dc_stretched pm_stretched cd_stretched ct_stretched : Value}
    {f_alike_by : Addr} {od_alike_by an_alike_by : Option Addr} {sl_alike_by : Array (Option Value)} {oc_alike_by kV_alike_by dc_alike_by pm_alike_by cd_alike_by ct_alike_by : Value}
    {f_later : Addr} {od_later an_later : Option Addr} {sl_later : Array (Option Value)} {oc_later kV_later dc_later pm_later cd_later ct_later : Value}
    {f_row_from : Addr} {od_row_from an_row_from : Option Addr} {sl_row_from : Array (Option Value)} {oc_row_from kV_row_from dc_row_from pm_row_from cd_row_from ct_row_from : Value}
    {f_shrunk : Addr} {od_shrunk an_shrunk : Option Addr} {sl_shrunk : Array (Option Value)} {oc_shrunk kV_shrunk dc_shrunk pm_shrunk cd_shrunk ct_shrunk : Value}
    {f_least : Addr} {od_least an_least : Option Addr} {sl_least : Array (Option Value)} {oc_least kV_least dc_least pm_least cd_least ct_least : Value}
    {f_same : Addr} {od_same an_same : Option Addr} {sl_same : Array (Option Value)} {oc_same kV_same dc_same pm_same cd_same ct_same : Value}
    {f_Lon : Addr} {od_Lon an_Lon : Option Addr} {sl_Lon : Array (Option Value)} {oc_Lon kV_Lon dc_Lon pm_Lon cd_Lon ct_Lon : Value}
    {f_Lleast : Addr} {od_Lleast an_Lleast : Option Addr} {sl_Lleast : Array (Option Value)} {oc_Lleast kV_Lleast dc_Lleast pm_Lleast cd_Lleast ct_Lleast : Value}
    {f_Lwhole : Addr} {od_Lwhole an_Lwhole : Option Addr} {sl_Lwhole : Array (Option Value)} {oc_Lwhole kV_Lwhole dc_Lwhole pm_Lwhole cd_Lwhole ct_Lwhole : Value}
    {f_Lround_of : Addr} {od_Lround_of an_Lround_of : Option Addr} {sl_Lround_of : Array (Option Value)} {oc_Lround_of kV_Lround_of dc_Lround_of pm_Lround_of cd_Lround_of ct_Lround_of : Value}
    {f_law : Addr} {od_law an_law : Option Addr} {sl_law : Array (Option Value)} {oc_law kV_law dc_law pm_law cd_law ct_law : Value}
    {t_LIMIT : Tok}
    (a_Lcell_at : PySem.W.nsIn K mainGlobals "_law_cell_at" = some (some (.ref f_Lcell_at)))
    (l_Lcell_at : K.lookup f_Lcell_at = some ⟨oc_Lcell_at, od_Lcell_at, .func (PySem.W.fnOf "_law_cell_at" "_law_cell_at" (defArgs s_Lcell_at) (defBody s_Lcell_at) (defScope s_Lcell_at) .none kV_Lcell_at dc_Lcell_at pm_Lcell_at an_Lcell_at cd_Lcell_at ct_Lcell_at), sl_Lcell_at⟩)
    (c_Lcell_at : PySem.W.codeIn K cd_Lcell_at "_law_cell_at" = true)
    (k_Lcell_at : PySem.W.keepIn K (.ref f_Lcell_at) = true)
    (a_Llaid : PySem.W.nsIn K mainGlobals "_law_laid" = some (some (.ref f_Llaid)))
    (l_Llaid : K.lookup f_Llaid = some ⟨oc_Llaid, od_Llaid, .func (PySem.W.fnOf "_law_laid" "_law_laid" (defArgs s_Llaid) (defBody s_Llaid) (defScope s_Llaid) .none kV_Llaid dc_Llaid pm_Llaid an_Llaid cd_Llaid ct_Llaid), sl_Llaid⟩)
    (c_Llaid : PySem.W.codeIn K cd_Llaid "_law_laid" = true)
    (k_Llaid : PySem.W.keepIn K (.ref f_Llaid) = true)
    (a_Lbits : PySem.W.nsIn K mainGlobals "_law_bits" = some (some (.ref f_Lbits)))
    (l_Lbits : K.lookup f_Lbits = some ⟨oc_Lbits, od_Lbits, .func (PySem.W.fnOf "_law_bits" "_law_bits" (defArgs s_Lbits) (defBody s_Lbits) (defScope s_Lbits) .none kV_Lbits dc_Lbits pm_Lbits an_Lbits cd_Lbits ct_Lbits), sl_Lbits⟩)
    (c_Lbits : PySem.W.codeIn K cd_Lbits "_law_bits" = true)
    (k_Lbits : PySem.W.keepIn K (.ref f_Lbits) = true)
    (a_Lpair : PySem.W.nsIn K mainGlobals "_law_pair" = some (some (.ref f_Lpair)))
    (l_Lpair : K.lookup f_Lpair = some ⟨oc_Lpair, od_Lpair, .func (PySem.W.fnOf "_law_pair" "_law_pair" (defArgs s_Lpair) (defBody s_Lpair) (defScope s_Lpair) .none kV_Lpair dc_Lpair pm_Lpair an_Lpair cd_Lpair ct_Lpair), sl_Lpair⟩)
    (c_Lpair : PySem.W.codeIn K cd_Lpair "_law_pair" = true)
    (k_Lpair : PySem.W.keepIn K (.ref f_Lpair) = true)
    (a_divisor : PySem.W.nsIn K mainGlobals "divisor" = some (some (.ref f_divisor)))
    (l_divisor : K.lookup f_divisor = some ⟨oc_divisor, od_divisor, .func (PySem.W.fnOf "divisor" "divisor" (defArgs s_divisor) (defBody s_divisor) (defScope s_divisor) .none kV_divisor dc_divisor pm_divisor an_divisor cd_divisor ct_divisor), sl_divisor⟩)
    (c_divisor : PySem.W.codeIn K cd_divisor "divisor" = true)
    (k_divisor : PySem.W.keepIn K (.ref f_divisor) = true)
    (a_mask : PySem.W.nsIn K mainGlobals "mask" = some (some (.ref f_mask)))
    (l_mask : K.lookup f_mask = some ⟨oc_mask, od_mask, .func (PySem.W.fnOf "mask" "mask" (defArgs s_mask) (defBody s_mask) (defScope s_mask) .none kV_mask dc_mask pm_mask an_mask cd_mask ct_mask), sl_mask⟩)
    (c_mask : PySem.W.codeIn K cd_mask "mask" = true)
    (k_mask : PySem.W.keepIn K (.ref f_mask) = true)
    (a_cut_to : PySem.W.nsIn K mainGlobals "cut_to" = some (some (.ref f_cut_to)))
    (l_cut_to : K.lookup f_cut_to = some ⟨oc_cut_to, od_cut_to, .func (PySem.W.fnOf "cut_to" "cut_to" (defArgs s_cut_to) (defBody s_cut_to) (defScope s_cut_to) .none kV_cut_to dc_cut_to pm_cut_to an_cut_to cd_cut_to ct_cut_to), sl_cut_to⟩)
    (c_cut_to : PySem.W.codeIn K cd_cut_to "cut_to" = true)
    (k_cut_to : PySem.W.keepIn K (.ref f_cut_to) = true)
    (a_allowed : PySem.W.nsIn K mainGlobals "allowed" = some (some (.ref f_allowed)))
    (l_allowed : K.lookup f_allowed = some ⟨oc_allowed, od_allowed, .func (PySem.W.fnOf "allowed" "allowed" (defArgs s_allowed) (defBody s_allowed) (defScope s_allowed) .none kV_allowed dc_allowed pm_allowed an_allowed cd_allowed ct_allowed), sl_allowed⟩)
    (c_allowed : PySem.W.codeIn K cd_allowed "allowed" = true)
    (k_allowed : PySem.W.keepIn K (.ref f_allowed) = true)
    (a_stretched : PySem.W.nsIn K mainGlobals "stretched" = some (some (.ref f_stretched)))
    (l_stretched : K.lookup f_stretched = some ⟨oc_stretched, od_stretched, .func (PySem.W.fnOf "stretched" "stretched" (defArgs s_stretched) (defBody s_stretched) (defScope s_stretched) .none kV_stretched dc_stretched pm_stretched an_stretched cd_stretched ct_stretched), sl_stretched⟩)
    (c_stretched : PySem.W.codeIn K cd_stretched "stretched" = true)
    (k_stretched : PySem.W.keepIn K (.ref f_stretched) = true)
    (a_alike_by : PySem.W.nsIn K mainGlobals "alike_by" = some (some (.ref f_alike_by)))
    (l_alike_by : K.lookup f_alike_by = some ⟨oc_alike_by, od_alike_by, .func (PySem.W.fnOf "alike_by" "alike_by" (defArgs s_alike_by) (defBody s_alike_by) (defScope s_alike_by) .none kV_alike_by dc_alike_by pm_alike_by an_alike_by cd_alike_by ct_alike_by), sl_alike_by⟩)
    (c_alike_by : PySem.W.codeIn K cd_alike_by "alike_by" = true)
    (k_alike_by : PySem.W.keepIn K (.ref f_alike_by) = true)
    (a_later : PySem.W.nsIn K mainGlobals "later" = some (some (.ref f_later)))
    (l_later : K.lookup f_later = some ⟨oc_later, od_later, .func (PySem.W.fnOf "later" "later" (defArgs s_later) (defBody s_later) (defScope s_later) .none kV_later dc_later pm_later an_later cd_later ct_later), sl_later⟩)
    (c_later : PySem.W.codeIn K cd_later "later" = true)
    (k_later : PySem.W.keepIn K (.ref f_later) = true)
    (a_row_from : PySem.W.nsIn K mainGlobals "row_from" = some (some (.ref f_row_from)))
    (l_row_from : K.lookup f_row_from = some ⟨oc_row_from, od_row_from, .func (PySem.W.fnOf "row_from" "row_from" (defArgs s_row_from) (defBody s_row_from) (defScope s_row_from) .none kV_row_from dc_row_from pm_row_from an_row_from cd_row_from ct_row_from), sl_row_from⟩)
    (c_row_from : PySem.W.codeIn K cd_row_from "row_from" = true)
    (k_row_from : PySem.W.keepIn K (.ref f_row_from) = true)
    (a_shrunk : PySem.W.nsIn K mainGlobals "shrunk" = some (some (.ref f_shrunk)))
    (l_shrunk : K.lookup f_shrunk = some ⟨oc_shrunk, od_shrunk, .func (PySem.W.fnOf "shrunk" "shrunk" (defArgs s_shrunk) (defBody s_shrunk) (defScope s_shrunk) .none kV_shrunk dc_shrunk pm_shrunk an_shrunk cd_shrunk ct_shrunk), sl_shrunk⟩)
    (c_shrunk : PySem.W.codeIn K cd_shrunk "shrunk" = true)
    (k_shrunk : PySem.W.keepIn K (.ref f_shrunk) = true)
    (a_least : PySem.W.nsIn K mainGlobals "least" = some (some (.ref f_least)))
    (l_least : K.lookup f_least = some ⟨oc_least, od_least, .func (PySem.W.fnOf "least" "least" (defArgs s_least) (defBody s_least) (defScope s_least) .none kV_least dc_least pm_least an_least cd_least ct_least), sl_least⟩)
    (c_least : PySem.W.codeIn K cd_least "least" = true)
    (k_least : PySem.W.keepIn K (.ref f_least) = true)
    (a_same : PySem.W.nsIn K mainGlobals "same" = some (some (.ref f_same)))
    (l_same : K.lookup f_same = some ⟨oc_same, od_same, .func (PySem.W.fnOf "same" "same" (defArgs s_same) (defBody s_same) (defScope s_same) .none kV_same dc_same pm_same an_same cd_same ct_same), sl_same⟩)
    (c_same : PySem.W.codeIn K cd_same "same" = true)
    (k_same : PySem.W.keepIn K (.ref f_same) = true)
    (a_Lon : PySem.W.nsIn K mainGlobals "_law_on" = some (some (.ref f_Lon)))
    (l_Lon : K.lookup f_Lon = some ⟨oc_Lon, od_Lon, .func (PySem.W.fnOf "_law_on" "_law_on" (defArgs s_Lon) (defBody s_Lon) (defScope s_Lon) .none kV_Lon dc_Lon pm_Lon an_Lon cd_Lon ct_Lon), sl_Lon⟩)
    (c_Lon : PySem.W.codeIn K cd_Lon "_law_on" = true)
    (k_Lon : PySem.W.keepIn K (.ref f_Lon) = true)
    (a_Lleast : PySem.W.nsIn K mainGlobals "_law_least" = some (some (.ref f_Lleast)))
    (l_Lleast : K.lookup f_Lleast = some ⟨oc_Lleast, od_Lleast, .func (PySem.W.fnOf "_law_least" "_law_least" (defArgs s_Lleast) (defBody s_Lleast) (defScope s_Lleast) .none kV_Lleast dc_Lleast pm_Lleast an_Lleast cd_Lleast ct_Lleast), sl_Lleast⟩)
    (c_Lleast : PySem.W.codeIn K cd_Lleast "_law_least" = true)
    (k_Lleast : PySem.W.keepIn K (.ref f_Lleast) = true)
    (a_Lwhole : PySem.W.nsIn K mainGlobals "_law_whole" = some (some (.ref f_Lwhole)))
    (l_Lwhole : K.lookup f_Lwhole = some ⟨oc_Lwhole, od_Lwhole, .func (PySem.W.fnOf "_law_whole" "_law_whole" (defArgs s_Lwhole) (defBody s_Lwhole) (defScope s_Lwhole) .none kV_Lwhole dc_Lwhole pm_Lwhole an_Lwhole cd_Lwhole ct_Lwhole), sl_Lwhole⟩)
    (c_Lwhole : PySem.W.codeIn K cd_Lwhole "_law_whole" = true)
    (k_Lwhole : PySem.W.keepIn K (.ref f_Lwhole) = true)
    (a_Lround_of : PySem.W.nsIn K mainGlobals "_law_round_of" = some (some (.ref f_Lround_of)))
    (l_Lround_of : K.lookup f_Lround_of = some ⟨oc_Lround_of, od_Lround_of, .func (PySem.W.fnOf "_law_round_of" "_law_round_of" (defArgs s_Lround_of) (defBody s_Lround_of) (defScope s_Lround_of) .none kV_Lround_of dc_Lround_of pm_Lround_of an_Lround_of cd_Lround_of ct_Lround_of), sl_Lround_of⟩)
    (c_Lround_of : PySem.W.codeIn K cd_Lround_of "_law_round_of" = true)
    (k_Lround_of : PySem.W.keepIn K (.ref f_Lround_of) = true)
    (a_law : PySem.W.nsIn K mainGlobals "law" = some (some (.ref f_law)))
    (l_law : K.lookup f_law = some ⟨oc_law, od_law, .func (PySem.W.fnOf "law" "law" (defArgs s_law) (defBody s_law) (defScope s_law) .none kV_law dc_law pm_law an_law cd_law ct_law), sl_law⟩)
    (c_law : PySem.W.codeIn K cd_law "law" = true)
    (k_law : PySem.W.keepIn K (.ref f_law) = true)
    (q_LIMIT : PySem.W.nsIn K mainGlobals "LIMIT" = some (some (.int 150000 t_LIMIT)))
    (z_abs : PySem.W.nsIn K mainGlobals "abs" = some none)
    (z_bool : PySem.W.nsIn K mainGlobals "bool" = some none)
    (z_int : PySem.W.nsIn K mainGlobals "int" = some none)
    (z_isinstance : PySem.W.nsIn K mainGlobals "isinstance" = some none)
    (z_len : PySem.W.nsIn K mainGlobals "len" = some none)
    (z_min : PySem.W.nsIn K mainGlobals "min" = some none)
    (z_range : PySem.W.nsIn K mainGlobals "range" = some none)
    (z_tuple : PySem.W.nsIn K mainGlobals "tuple" = some none) :
    ∃ fd : FuncData, (∀ (s : Shared) (v : Value), BindsTo s fd ⟨[v], []⟩ [("_law_script", v)]) ∧ ∀ base : Heap, K.In base → base.Ns mainGlobals mg → FnOk l.prog w K mg base CX0 6 fa fd ["_law_script"] (sp_law K) := by
  have e := hfa.symm.trans (PySem.W.mg_of X G a_law)
  cases e
  have F_Lcell_at := fun_mk (st := s_Lcell_at) l_Lcell_at c_Lcell_at k_Lcell_at
  have b_Lcell_at := F_Lcell_at.binds (ps := ["_law_script", "_law_k"]) fun _ _ _ _ _ _ us hl => match us, hl with | [_, _], _ => rfl
  have F_Llaid := fun_mk (st := s_Llaid) l_Llaid c_Llaid k_Llaid
  have b_Llaid := F_Llaid.binds (ps := ["_law_bits_here", "_law_size", "_law_times"]) fun _ _ _ _ _ _ us hl => match us, hl with | [_, _, _], _ => rfl
  have F_Lbits := fun_mk (st := s_Lbits) l_Lbits c_Lbits k_Lbits
  have b_Lbits := F_Lbits.binds (ps := ["_law_cell", "_law_size"]) fun _ _ _ _ _ _ us hl => match us, hl with | [_, _], _ => rfl
  have F_Lpair := fun_mk (st := s_Lpair) l_Lpair c_Lpair k_Lpair
  have b_Lpair := F_Lpair.binds (ps := ["_law_script"]) fun _ _ _ _ _ _ us hl => match us, hl with | [_], _ => rfl
  have F_divisor := fun_mk (st := s_divisor) l_divisor c_divisor k_divisor
  have b_divisor := F_divisor.binds (ps := ["one", "other"]) fun _ _ _ _ _ _ us hl => match us, hl with | [_, _], _ => rfl
  have F_mask := fun_mk (st := s_mask) l_mask c_mask k_mask
  have b_mask := F_mask.binds (ps := ["size"]) fun _ _ _ _ _ _ us hl => match us, hl with | [_], _ => rfl
  have F_cut_to := fun_mk (st := s_cut_to) l_cut_to c_cut_to k_cut_to
  have b_cut_to := F_cut_to.binds (ps := ["turn", "size"]) fun _ _ _ _ _ _ us hl => match us, hl with | [_, _], _ => rfl
  have F_allowed := fun_mk (st := s_allowed) l_allowed c_allowed k_allowed
  have b_allowed := F_allowed.binds (ps := ["size"]) fun _ _ _ _ _ _ us hl => match us, hl with | [_], _ => rfl
  have F_stretched := fun_mk (st := s_stretched) l_stretched c_stretched k_stretched
  have b_stretched := F_stretched.binds (ps := ["turn", "size"]) fun _ _ _ _ _ _ us hl => match us, hl with | [_, _], _ => rfl
  have F_alike_by := fun_mk (st := s_alike_by) l_alike_by c_alike_by k_alike_by
  have b_alike_by := F_alike_by.binds (ps := ["small", "one", "other"]) fun _ _ _ _ _ _ us hl => match us, hl with | [_, _, _], _ => rfl
  have F_later := fun_mk (st := s_later) l_later c_later k_later
  have b_later := F_later.binds (ps := ["turn", "number"]) fun _ _ _ _ _ _ us hl => match us, hl with | [_, _], _ => rfl
  have F_row_from := fun_mk (st := s_row_from) l_row_from c_row_from k_row_from
  have b_row_from := F_row_from.binds (ps := ["turn", "day", "many"]) fun _ _ _ _ _ _ us hl => match us, hl with | [_, _, _], _ => rfl
  have F_shrunk := fun_mk (st := s_shrunk) l_shrunk c_shrunk k_shrunk
  have b_shrunk := F_shrunk.binds (ps := ["turn", "part"]) fun _ _ _ _ _ _ us hl => match us, hl with | [_, _], _ => rfl
  have F_least := fun_mk (st := s_least) l_least c_least k_least
  have b_least := F_least.binds (ps := ["turn"]) fun _ _ _ _ _ _ us hl => match us, hl with | [_], _ => rfl
  have F_same := fun_mk (st := s_same) l_same c_same k_same
  have b_same := F_same.binds (ps := ["one", "other", "day"]) fun _ _ _ _ _ _ us hl => match us, hl with | [_, _, _], _ => rfl
  have F_Lon := fun_mk (st := s_Lon) l_Lon c_Lon k_Lon
  have b_Lon := F_Lon.binds (ps := ["_law_turn", "_law_day"]) fun _ _ _ _ _ _ us hl => match us, hl with | [_, _], _ => rfl
  have F_Lleast := fun_mk (st := s_Lleast) l_Lleast c_Lleast k_Lleast
  have b_Lleast := F_Lleast.binds (ps := ["_law_turn"]) fun _ _ _ _ _ _ us hl => match us, hl with | [_], _ => rfl
  have F_Lwhole := fun_mk (st := s_Lwhole) l_Lwhole c_Lwhole k_Lwhole
  have b_Lwhole := F_Lwhole.binds (ps := ["_law_found"]) fun _ _ _ _ _ _ us hl => match us, hl with | [_], _ => rfl
  have F_Lround_of := fun_mk (st := s_Lround_of) l_Lround_of c_Lround_of k_Lround_of
  have b_Lround_of := F_Lround_of.binds (ps := ["_law_found"]) fun _ _ _ _ _ _ us hl => match us, hl with | [_], _ => rfl
  have F_law := fun_mk (st := s_law) l_law c_law k_law
  have b_law := F_law.binds (ps := ["_law_script"]) fun _ _ _ _ _ _ us hl => match us, hl with | [_], _ => rfl
  exact ⟨_, fun s v => .of_eq rfl, fun base _ _ => ok_law (⟨_, _, F_Lcell_at, (PySem.W.mg_of X G a_Lcell_at), b_Lcell_at, _, _, F_Llaid, (PySem.W.mg_of X G a_Llaid), b_Llaid, _, _, F_Lbits, (PySem.W.mg_of X G a_Lbits), b_Lbits, _, _, F_Lpair, (PySem.W.mg_of X G a_Lpair), b_Lpair, _, _, F_divisor, (PySem.W.mg_of X G a_divisor), b_divisor, _, _, F_mask, (PySem.W.mg_of X G a_mask), b_mask, _, _, F_cut_to, (PySem.W.mg_of X G a_cut_to), b_cut_to, _, _, F_allowed, (PySem.W.mg_of X G a_allowed), b_allowed, _, _, F_stretched, (PySem.W.mg_of X G a_stretched), b_stretched, _, _, F_alike_by, (PySem.W.mg_of X G a_alike_by), b_alike_by, _, _, F_later, (PySem.W.mg_of X G a_later), b_later, _, _, F_row_from, (PySem.W.mg_of X G a_row_from), b_row_from, _, _, F_shrunk, (PySem.W.mg_of X G a_shrunk), b_shrunk, _, _, F_least, (PySem.W.mg_of X G a_least), b_least, _, _, F_same, (PySem.W.mg_of X G a_same), b_same, _, _, F_Lon, (PySem.W.mg_of X G a_Lon), b_Lon, _, _, F_Lleast, (PySem.W.mg_of X G a_Lleast), b_Lleast, _, _, F_Lwhole, (PySem.W.mg_of X G a_Lwhole), b_Lwhole, _, _, F_Lround_of, (PySem.W.mg_of X G a_Lround_of), b_Lround_of, _, _, F_law, (PySem.W.mg_of X G a_law), b_law, _, (PySem.W.mg_of X G q_LIMIT), (PySem.W.mg_none_of X G z_abs), (PySem.W.mg_none_of X G z_bool), (PySem.W.mg_none_of X G z_int), (PySem.W.mg_none_of X G z_isinstance), (PySem.W.mg_none_of X G z_len), (PySem.W.mg_none_of X G z_min), (PySem.W.mg_none_of X G z_range), (PySem.W.mg_none_of X G z_tuple)⟩ : Txt K mg)⟩
end FW
open PySem PySem.W PyProof.Rows
set_option maxRecDepth 100000 in
set_option maxHeartbeats 0 in
theorem PySem.Challenge.cw_feastwheel_k51_the_same_for_ever_holds : PySem.Challenge.rw_feastwheel_k51_the_same_for_ever.Holds := by
  w_on; o_law; k_head; (case hw => w_witness2)
  k_fill
  refine L2.walk_ofB (l := PySem.Challenge.rw_feastwheel_k51_the_same_for_ever) (n := 63) (k := 6) (x := "_law_script") (CX := fun _ => L2.CX0) (sp := fun w => FW.sp_law _) rfl (by decide) rfl ⟨rfl, by decide, by decide⟩ (fun w h Y => PySem.W.kIn_of Y) ?F (fun _ _ a ns hl hb _ hS => ⟨a, ns, rfl, hS, hl, hb, fun _ => rfl⟩) (fun _ _ _ _ _ h => h)
  case F =>
    intro w mg fa h KX G hmg
    refine' FW.all_mk KX G hmg ?a_Lcell_at ?l_Lcell_at ?c_Lcell_at ?k_Lcell_at ?a_Llaid ?l_Llaid ?c_Llaid ?k_Llaid ?a_Lbits ?l_Lbits ?c_Lbits ?k_Lbits ?a_Lpair ?l_Lpair ?c_Lpair ?k_Lpair ?a_divisor ?l_divisor ?c_divisor ?k_divisor ?a_mask ?l_mask ?c_mask ?k_mask ?a_cut_to ?l_cut_to ?c_cut_to ?k_cut_to ?a_allowed ?l_allowed ?c_allowed ?k_allowed ?a_stretched ?l_stretched ?c_stretched ?k_stretched ?a_alike_by ?l_alike_by ?c_alike_by ?k_alike_by ?a_later ?l_later ?c_later ?k_later ?a_row_from ?l_row_from ?c_row_from ?k_row_from ?a_shrunk ?l_shrunk ?c_shrunk ?k_shrunk ?a_least ?l_least ?c_least ?k_least ?a_same ?l_same ?c_same ?k_same ?a_Lon ?l_Lon ?c_Lon ?k_Lon ?a_Lleast ?l_Lleast ?c_Lleast ?k_Lleast ?a_Lwhole ?l_Lwhole ?c_Lwhole ?k_Lwhole ?a_Lround_of ?l_Lround_of ?c_Lround_of ?k_Lround_of ?a_law ?l_law ?c_law ?k_law ?q_LIMIT ?z_abs ?z_bool ?z_int ?z_isinstance ?z_len ?z_min ?z_range ?z_tuple
    (case a_Lcell_at => k_is)
    (case l_Lcell_at => k_is)
    (case c_Lcell_at => k_is)
    (case k_Lcell_at => k_is)
    (case a_Llaid => k_is)
    (case l_Llaid => k_is)
    (case c_Llaid => k_is)
    (case k_Llaid => k_is)
    (case a_Lbits => k_is)
    (case l_Lbits => k_is)
    (case c_Lbits => k_is)
    (case k_Lbits => k_is)
    (case a_Lpair => k_is)
    (case l_Lpair => k_is)
    (case c_Lpair => k_is)
    (case k_Lpair => k_is)
    (case a_divisor => k_is)
    (case l_divisor => k_is)
    (case c_divisor => k_is)
    (case k_divisor => k_is)
    (case a_mask => k_is)
    (case l_mask => k_is)
    (case c_mask => k_is)
    (case k_mask => k_is)
    (case a_cut_to => k_is)
    (case l_cut_to => k_is)
    (case c_cut_to => k_is)
    (case k_cut_to => k_is)
    (case a_allowed => k_is)
    (case l_allowed => k_is)
    (case c_allowed => k_is)
    (case k_allowed => k_is)
    (case a_stretched => k_is)
    (case l_stretched => k_is)
    (case c_stretched => k_is)
    (case k_stretched => k_is)
    (case a_alike_by => k_is)
    (case l_alike_by => k_is)
    (case c_alike_by => k_is)
    (case k_alike_by => k_is)
    (case a_later => k_is)
    (case l_later => k_is)
    (case c_later => k_is)
    (case k_later => k_is)
    (case a_row_from => k_is)
    (case l_row_from => k_is)
    (case c_row_from => k_is)
    (case k_row_from => k_is)
    (case a_shrunk => k_is)
    (case l_shrunk => k_is)
    (case c_shrunk => k_is)
    (case k_shrunk => k_is)
    (case a_least => k_is)
    (case l_least => k_is)
    (case c_least => k_is)
    (case k_least => k_is)
    (case a_same => k_is)
    (case l_same => k_is)
    (case c_same => k_is)
    (case k_same => k_is)
    (case a_Lon => k_is)
    (case l_Lon => k_is)
    (case c_Lon => k_is)
    (case k_Lon => k_is)
    (case a_Lleast => k_is)
    (case l_Lleast => k_is)
    (case c_Lleast => k_is)
    (case k_Lleast => k_is)
    (case a_Lwhole => k_is)
    (case l_Lwhole => k_is)
    (case c_Lwhole => k_is)
    (case k_Lwhole => k_is)
    (case a_Lround_of => k_is)
    (case l_Lround_of => k_is)
    (case c_Lround_of => k_is)
    (case k_Lround_of => k_is)
    (case a_law => k_is)
    (case l_law => k_is)
    (case c_law => k_is)
    (case k_law => k_is)
    (case q_LIMIT => k_is)
    (case z_abs => k_is)
    (case z_bool => k_is)
    (case z_int => k_is)
    (case z_isinstance => k_is)
    (case z_len => k_is)
    (case z_min => k_is)
    (case z_range => k_is)
    (case z_tuple => k_is)
