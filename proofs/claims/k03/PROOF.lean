import PyProof.Rows.All
import Wide.All
import OpenK.AllK
import Wide.FinOn
import HandS.ForMost
import HandS.Exc
import HandS.Wide
import HandS.WideBits
import HandS.IsInst
import HandS.Flow
import HandS.EndBits
import PySem.Challenge.RW_feastwheel_k03_two_remainders_met
set_option Elab.async false
set_option linter.all false
set_option maxRecDepth 100000
set_option maxHeartbeats 4000000
namespace FW
open PySem PySem.Spec PyProof.Rows L2
/-! ### heaps -/
theorem same_t {K : PySem.W.Frag} {H H' : Hp} {a : Addr} {xs : List V} (e : Same H H') (h : SqT K H a xs) : SqT K H' a xs := by
  rcases h with (h | ⟨o, h⟩) | h
  · exact .inl (.inl (e _ _ h))
  · exact .inl (.inr ⟨o, e _ _ h⟩)
  · exact .inr h
theorem same_l {K : PySem.W.Frag} {H H' : Hp} {a : Addr} {xs : List V} (e : Same H H') (h : SqL K H a xs) : SqL K H' a xs := e.seq h
theorem same_at {H H' : Hp} {a : Addr} {o : HO} (e : Same H H') (h : H a = some o) : H' a = some o := e _ _ h
theorem same_new {H : Hp} {p : Addr} {o : HO} (h : H p = none) : Same H (upd H p o) := fun b x e => by
  rw [upd_ne (ne_of_none e h)]
  exact e
theorem same_mut {H H' : Hp} {p : Addr} {o : HO} (e : Same H H') (h : H p = none) : Same H (upd H' p o) := fun a u ha => by
  rw [upd_ne (ne_of_none ha h)]
  exact e a u ha
section
variable {K : PySem.W.Frag} {σ : L2.St} {H H1 : Hp} {Q : VK} {D : Ends} {i : Nat} {v x y : V} {ta tb tc te : TE} {t u : TT} {tr : TA} {m n : Int} {a b : Int} {r r' : R2}
/-! ### steps: expressions -/
theorem k_var (h : σ[i]? = some (some v)) (q : Q v H) : tVar i σ H Q := ⟨v, h, q⟩
theorem k_c (q : Q v H) : tC v σ H Q := q
theorem k_op (h : ta σ H fun x H1 => tb σ H1 fun y H2 => r x y H2 Q) : tOp r ta tb σ H Q := h
theorem k_un {r : V → Hp → VK → Prop} (h : ta σ H fun x H1 => r x H1 Q) : tUn r ta σ H Q := h
theorem k_I0 {g : Int → Int → V} (q : Q (g a b) H) : rI0 g (.int a) (.int b) H Q := ⟨a, b, rfl, rfl, q⟩
theorem k_I {C : Int → Int → Prop} {g : Int → Int → V} (c : C a b) (q : Q (g a b) H) : rI C g (.int a) (.int b) H Q := ⟨a, b, rfl, rfl, c, q⟩
theorem k_U {g : Int → V} (q : Q (g a) H) : rU g (.int a) H Q := ⟨a, rfl, q⟩
theorem k_nil {Q : List V → Hp → Prop} (q : Q [] H) : tNil σ H Q := q
theorem k_cons {Q : List V → Hp → Prop} (h : ta σ H fun x H1 => tr σ H1 fun xs H2 => Q (x :: xs) H2) : tCons ta tr σ H Q := h
theorem k_cb {r : List V → Hp → VK → Prop} (h : tr σ H fun vs H1 => r vs H1 Q) : tCB r tr σ H Q := h
theorem k_call {sp : Sp} {E : XK} (h : tr σ H fun vs H1 => sp vs H1 Q E) : tCall sp [] E tr σ H Q := by
  show tr σ H fun vs H1 => sp (vs ++ []) H1 Q E
  simp only [List.append_nil]
  exact h
def NewT (xs : List V) (H : Hp) (Q : VK) : Prop := xs.length ≤ sizeLine ∧ ∀ p, H p = none → Q (.ref p) (upd H p (.tup xs))
def NewL (xs : List V) (H : Hp) (Q : VK) : Prop := xs.length ≤ sizeLine ∧ ∀ p, H p = none → Q (.ref p) (upd H p (.lst xs))
theorem k_tup (h : tr σ H fun xs H1 => NewT xs H1 Q) : tTup tr σ H Q := h
theorem k_lst (h : tr σ H fun xs H1 => NewL xs H1 Q) : tLst tr σ H Q := h
theorem k_newtup {xs : List V} (hl : xs.length ≤ 1000) (h : ∀ p H2, H p = none → Same H H2 → H2 p = some (.tup xs) → Q (.ref p) H2) : NewT xs H Q :=
  ⟨Nat.le_trans hl (by decide), fun p hp => h p _ hp (same_new hp) upd_same⟩
theorem k_newlst {xs : List V} (hl : xs.length ≤ 1000) (h : ∀ p H2, H p = none → Same H H2 → H2 p = some (.lst xs) → Q (.ref p) H2) : NewL xs H Q :=
  ⟨Nat.le_trans hl (by decide), fun p hp => h p _ hp (same_new hp) upd_same⟩
theorem k_ifx {Q : VK} (h : t σ H fun c H1 => if c = true then ta σ H1 Q else tb σ H1 Q) : tIf t ta tb σ H Q := h
theorem k_andV (h : ta σ H fun x H1 => ∃ c, x = .bl c ∧ if c = true then tb σ H1 Q else Q (.bl false) H1) : tAndV ta tb σ H Q := h
theorem k_orV (h : ta σ H fun x H1 => ∃ c, x = .bl c ∧ if c = true then Q (.bl true) H1 else tb σ H1 Q) : tOrV ta tb σ H Q := h
theorem k_notV (h : ta σ H fun x H1 => ∃ c, x = .bl c ∧ Q (.bl (!c)) H1) : tNotV ta σ H Q := h
theorem k_chain (h : ta σ H fun x H1 => tb σ H1 fun y H2 => r x y H2 fun z H3 => ∃ k, z = .bl k ∧ (if k = true then tc σ H3 fun w' H4 => r' y w' H4 Q else Q (.bl false) H3)) : tChain r r' ta tb tc σ H Q := h
/-- a truth value told -/
theorem k_bl {p : Bool → Prop} {c : Bool} (h : p c) : ∃ k, V.bl c = .bl k ∧ p k := ⟨c, rfl, h⟩
/-! ### steps: tests -/
theorem k_test {Q : Bool → Hp → Prop} (h : ta σ H fun x H' => ∃ k, x = .bl k ∧ Q k H') : tTest ta σ H Q := h
theorem k_B {Q : Bool → Hp → Prop} (h : ta σ H fun x H' => ∃ k, x = .bl k ∧ Q k H') : tB ta σ H Q := h
theorem k_and {Q : Bool → Hp → Prop} (h : t σ H fun c H1 => if c = true then u σ H1 Q else Q false H1) : tAnd t u σ H Q := h
theorem k_or {Q : Bool → Hp → Prop} (h : t σ H fun c H1 => if c = true then Q true H1 else u σ H1 Q) : tOr t u σ H Q := h
theorem k_not {Q : Bool → Hp → Prop} (h : t σ H fun c H1 => Q (!c) H1) : tNot t σ H Q := h
/-! ### branches -/
theorem if_dec {p A B : Prop} [Decidable p] (h1 : p → A) (h2 : ¬ p → B) : if decide p = true then A else B := by
  by_cases h : p
  · rw [if_pos (decide_eq_true h)]; exact h1 h
  · rw [if_neg (by rw [decide_eq_false h]; decide)]; exact h2 h
theorem if_ndec {p A B : Prop} [Decidable p] (h1 : ¬ p → A) (h2 : p → B) : if (!decide p) = true then A else B := by
  by_cases h : p
  · rw [if_neg (by rw [decide_eq_true h]; decide)]; exact h2 h
  · rw [if_pos (by rw [decide_eq_false h]; rfl)]; exact h1 h
theorem if_b {c : Bool} {A B : Prop} (h1 : c = true → A) (h2 : c = false → B) : if c = true then A else B := by
  cases c with
  | true => rw [if_pos rfl]; exact h1 rfl
  | false => rw [if_neg Bool.false_ne_true]; exact h2 rfl
theorem if_t {A B : Prop} (h : A) : if true = true then A else B := iteT h
theorem if_f {A B : Prop} (h : B) : if false = true then A else B := iteF h
theorem if_nt {A B : Prop} (h : A) : if (!false) = true then A else B := iteT h
theorem if_nf {A B : Prop} (h : B) : if (!true) = true then A else B := iteF h
theorem fin_t {c : Bool} (hc : c = true) (q : Q (.bl true) H) : Q (.bl c) H := by rw [hc]; exact q
/-! ### steps: statements -/
theorem k_seq {t u : TS} (h : t { D with nx := u D } σ H) : tSeq t u D σ H := h
theorem k_seqA {g : TG} {u : TS} (h : tAsg te g { D with nx := u D } σ H) : tSeq (tAsg te g) u D σ H := h
theorem k_seqD {u : TS} (h : tDrop te { D with nx := u D } σ H) : tSeq (tDrop te) u D σ H := h
theorem k_seqP {i j : Nat} {u : TS} (h : tPar i j tr { D with nx := u D } σ H) : tSeq (tPar i j tr) u D σ H := h
theorem k_seqI {t u : TS} {c : TT} {w : TS} (h : c σ H fun b H1 => if b = true then t { D with nx := w D } σ H1 else u { D with nx := w D } σ H1) : tSeq (tIfS c t u) w D σ H := h
theorem k_nx {f : L2.St → Hp → Prop} {r : VK} {b c : L2.St → Hp → Prop} (h : f σ H) : Ends.nx ⟨f, r, b, c⟩ σ H := h
theorem k_rt {f : L2.St → Hp → Prop} {r : VK} {b c : L2.St → Hp → Prop} (h : r v H) : Ends.rt ⟨f, r, b, c⟩ v H := h
theorem k_next (h : D.nx σ H) : tNext D σ H := h
theorem k_asg {i : Nat} (h : te σ H fun x H1 => D.nx (σ.set i (some x)) H1) : tAsg te (gName i) D σ H := h
theorem k_asgG {g : TG} (h : te σ H fun x H1 => g x σ H1 D.nx) : tAsg te g D σ H := h
theorem k_gname {Q : L2.St → Hp → Prop} (h : Q (σ.set i (some v)) H) : gName i v σ H Q := h
theorem k_gtup {tg : TGs} {n : Nat} {p : Addr} {xs : List V} {Q : L2.St → Hp → Prop} (h : SqT K H p xs) (hl : xs.length = n) (q : tg xs σ H Q) : gTup K n tg (.ref p) σ H Q := ⟨p, xs, rfl, h, hl, q⟩
theorem k_gcons {tg : TG} {ug : TGs} {vs : List V} {Q : L2.St → Hp → Prop} (q : tg v σ H fun σ' H' => ug vs σ' H' Q) : gCons tg ug (v :: vs) σ H Q := ⟨v, vs, rfl, q⟩
theorem k_gnil {Q : L2.St → Hp → Prop} (q : Q σ H) : gNil [] σ H Q := ⟨rfl, q⟩
theorem k_par {i j : Nat} (h : tr σ H fun vs H1 => ∃ v w, vs = [v, w] ∧ D.nx ((σ.set i (some v)).set j (some w)) H1) : tPar i j tr D σ H := h
theorem k_par2 {P : V → V → Prop} {x y : V} (h : P x y) : ∃ v w, [x, y] = [v, w] ∧ P v w := ⟨x, y, rfl, h⟩
theorem k_drop (h : te σ H fun _ H1 => D.nx σ H1) : tDrop te D σ H := h
theorem k_ret (h : te σ H D.rt) : tRet te D σ H := h
theorem k_retN (h : D.rt .non H) : tRetN D σ H := h
theorem k_if {t u : TS} {c : TT} (h : c σ H fun b H1 => if b = true then t D σ H1 else u D σ H1) : tIfS c t u D σ H := h
theorem k_cutI {t u w : TS} {c : TT} (P : L2.St → Hp → Prop) (h1 : ∀ N : L2.St → Hp → Prop, (∀ σ' H', P σ' H' → N σ' H') → c σ H fun b H1 => if b = true then t { D with nx := N } σ H1 else u { D with nx := N } σ H1) (h2 : ∀ σ' H', P σ' H' → w D σ' H') : tSeq (tIfS c t u) w D σ H := h1 _ h2
/-- the ways of a statement meet again: what holds behind it -/
theorem k_cut {t u : TS} (P : L2.St → Hp → Prop) (h1 : ∀ N : L2.St → Hp → Prop, (∀ σ' H', P σ' H' → N σ' H') → t { D with nx := N } σ H) (h2 : ∀ σ' H', P σ' H' → u D σ' H') : tSeq t u D σ H := h1 _ h2
/-! ### loops -/
theorem k_seqW {t : TT} {tb u : TS} (h : tWhile t tb { D with nx := u D } σ H) : tSeq (tWhile t tb) u D σ H := h
theorem k_seqF {wi : TI} {g : TG} {tb u : TS} (h : tFor wi g tb { D with nx := u D } σ H) : tSeq (tFor wi g tb) u D σ H := h
theorem k_while {t : TT} {tb : TS} (W : Nat → L2.St → Hp → Prop) (m : Nat) (h0 : W m σ H) (hs : ∀ m σ H, W m σ H → t σ H fun b H1 => if b = true then ∃ N : L2.St → Hp → Prop, (∀ σ' H', N σ' H' → ∃ m', m' < m ∧ W m' σ' H') ∧ tb { D with nx := N, ct := N, bk := D.nx } σ H1 else D.nx σ H1) : tWhile t tb D σ H := ⟨W, ⟨m, h0⟩, hs⟩
theorem k_turn {tb : TS} {W : Nat → L2.St → Hp → Prop} {m : Nat} (h : tb { D with nx := fun σ' H' => ∃ m', m' < m ∧ W m' σ' H', ct := fun σ' H' => ∃ m', m' < m ∧ W m' σ' H', bk := D.nx } σ H) : ∃ N : L2.St → Hp → Prop, (∀ σ' H', N σ' H' → ∃ m', m' < m ∧ W m' σ' H') ∧ tb { D with nx := N, ct := N, bk := D.nx } σ H := ⟨_, fun _ _ h => h, h⟩
def ForG (J : It) (g : TG) (tb : TS) (D : Ends) (σ : L2.St) (H1 : Hp) : Prop := ∃ W : Nat → Nat → L2.St → Hp → Prop, (∃ m, W 0 m σ H1) ∧ ∀ i m σ H, W i m σ H →
  (J.stop i H ∧ D.nx σ H) ∨ (J.go i H ∧ ∃ N : L2.St → Hp → Prop, (∀ σ' H', N σ' H' → ∃ m', m' < m ∧ W (i + 1) m' σ' H') ∧ ∀ x H', J.yld i H x H' → g x σ H' fun σ2 H2 => tb { D with nx := N, ct := N, bk := D.nx } σ2 H2)
theorem k_for {wi : TI} {g : TG} {tb : TS} (h : wi σ H fun J H1 => ForG J g tb D σ H1) : tFor wi g tb D σ H := h
/-! ### comprehensions over a range -/
def Rng1 (vs : List V) (H : Hp) (R : It → Hp → Prop) : Prop := ∃ j : Int, vs = [.int j] ∧ -(2 ^ 62) ≤ j ∧ j < 2 ^ 62 ∧ R (Itr 0 j.toNat) H
def Rng2 (vs : List V) (H : Hp) (R : It → Hp → Prop) : Prop := ∃ i j : Int, vs = [.int i, .int j] ∧ (-(2 ^ 62) ≤ i ∧ i < 2 ^ 62 ∧ -(2 ^ 62) ≤ j ∧ j < 2 ^ 62) ∧ R (Itr i (j - i).toNat) H
theorem k_irng1 {R : It → Hp → Prop} (h : tr σ H fun vs H1 => Rng1 vs H1 R) : iRng1 tr σ H R := h
theorem k_irng2 {R : It → Hp → Prop} (h : tr σ H fun vs H1 => Rng2 vs H1 R) : iRng2 tr σ H R := h
theorem k_rng1 {n : Int} {R : It → Hp → Prop} (h0 : -(2 ^ 62) ≤ n ∧ n < 2 ^ 62) (h : R (Itr 0 n.toNat) H) : Rng1 [V.int n] H R := ⟨n, rfl, h0.1, h0.2, h⟩
theorem k_rng2 {n : Int} {R : It → Hp → Prop} (h0 : -(2 ^ 62) ≤ m ∧ m < 2 ^ 62 ∧ -(2 ^ 62) ≤ n ∧ n < 2 ^ 62) (h : R (Itr m (n - m).toNat) H) : Rng2 [V.int m, V.int n] H R := ⟨m, n, rfl, h0, h⟩
def LcG (J : It) (H1 : Hp) (g : TG) (tt : TT) (te : TE) (vs : List Nat) (σ : L2.St) (Q : VK) : Prop := ∀ D, H1 D = none → ∃ W : Nat → Nat → Hp → Prop, (∃ m, W 0 m (upd H1 D (.lst []))) ∧ ∀ i m H, W i m H →
  (J.stop i H ∧ Q (.ref D) H) ∨ (J.go i H ∧ ∃ Nx : Hp → Prop, (∀ H', Nx H' → ∃ m', m' < m ∧ W (i + 1) m' H') ∧ ∀ x H', J.yld i H x H' → g x (wipe σ vs) H' fun σ2 H2 => wipe σ2 vs = wipe σ vs ∧ tt σ2 H2 fun b H3 =>
    if b = true then te σ2 H3 fun y H4 => ∃ acc, H4 D = some (.lst acc) ∧ acc.length < sizeLine ∧ Nx (upd H4 D (.lst (acc ++ [y]))) else Nx H3)
theorem k_lc {wi : TI} {g : TG} {tt : TT} {vs : List Nat} (h : wi σ H fun J H1 => LcG J H1 g tt te vs σ Q) : tLc wi g tt te vs σ H Q := h
/-- [e for k in range(..)]: the list of the values, each told by its place -/
theorem k_lcr {lo : Int} {n j : Nat} (L : List V) (hl : L.length = n) (hz : n ≤ 1000000)
    (hs : ∀ (i : Nat) (v : V) (H2 : Hp) (R : VK), L[i]? = some v → Same H1 H2 → (∀ H3, Same H2 H3 → R v H3) → te (σ.set j (some (.int (lo + i)))) H2 R)
    (q : ∀ D H2, H1 D = none → Same H1 H2 → H2 D = some (.lst L) → Q (.ref D) H2) :
    LcG (Itr lo n) H1 (gName j) tYes te [j] σ Q := by
  intro D hD
  refine lc_range (fun i H' => Same H1 H' ∧ H' D = some (.lst (L.take i))) ⟨same_new hD, by rw [upd_same]; rfl⟩ (fun i H' hi ⟨sm, hd⟩ => ?_) (fun H' ⟨sm, hd⟩ => q D H' hD sm (by rw [hd, List.take_of_length_le (by omega)]))
  have ew : ∀ y : V, (wipe σ [j]).set j (some y) = σ.set j (some y) := fun y => by
    show ((σ.set j none).set j (some y)) = _
    rw [List.set_set]
  show wipe ((wipe σ [j]).set j _) [j] = wipe σ [j] ∧ _
  rw [ew]
  refine ⟨by show (σ.set j _).set j none = σ.set j none; rw [List.set_set], ?_⟩
  refine hs i (L[i]'(by omega)) H' _ (List.getElem?_eq_getElem (by omega)) sm fun H3 s3 => ?_
  refine ⟨L.take i, s3 _ _ hd, Nat.lt_of_le_of_lt (Nat.le_trans (by rw [List.length_take]; exact Nat.min_le_left _ _) (show i ≤ 1000000 by omega)) (by rw [sizeLine_eq]; decide), same_mut (sm.trans s3) hD, ?_⟩
  rw [upd_same, List.take_add_one, List.getElem?_eq_getElem (show i < L.length by omega)]
  rfl
/-! ### comprehensions and loops over a list, a tuple -/
def SqI (J : Addr → It) (ok : Addr → Hp → Prop) (x : V) (H : Hp) (R : It → Hp → Prop) : Prop := ∃ a, x = .ref a ∧ ok a H ∧ R (J a) H
theorem k_itup {tl : TE} {R : It → Hp → Prop} (h : tl σ H fun x H1 => SqI (Itt K) (fun a H => ∃ xs, SqT K H a xs) x H1 R) : iTup K tl σ H R := h
theorem k_ilst {tl : TE} {R : It → Hp → Prop} (h : tl σ H fun x H1 => SqI (Itl K) (fun a H => ∃ xs, SqL K H a xs) x H1 R) : iList K tl σ H R := h
theorem k_sqt {p : Addr} {xs : List V} {R : It → Hp → Prop} (h : SqT K H p xs) (q : R (Itt K p) H) : SqI (Itt K) (fun a H => ∃ xs, SqT K H a xs) (.ref p) H R := ⟨p, rfl, ⟨xs, h⟩, q⟩
theorem k_sql {p : Addr} {xs : List V} {R : It → Hp → Prop} (h : SqL K H p xs) (q : R (Itl K p) H) : SqI (Itl K) (fun a H => ∃ xs, SqL K H a xs) (.ref p) H R := ⟨p, rfl, ⟨xs, h⟩, q⟩
theorem wipe_set {σ : L2.St} {j : Nat} {y : V} : (wipe σ [j]).set j (some y) = σ.set j (some y) := by
  show ((σ.set j none).set j (some y)) = _
  rw [List.set_set]
theorem wipe_set2 {σ : L2.St} {j : Nat} {y : V} : wipe (σ.set j (some y)) [j] = wipe σ [j] := by
  show (σ.set j _).set j none = σ.set j none
  rw [List.set_set]
/-- [e for x in t], t a tuple: the list of the values -/
theorem k_lct {a : Addr} {xs : List V} {j : Nat} (hx : SqT K H1 a xs) (L : List V) (hl : L.length = xs.length) (hz : xs.length ≤ 1000000)
    (hs : ∀ (i : Nat) (x v : V) (H2 : Hp) (R : VK), xs[i]? = some x → L[i]? = some v → Same H1 H2 → (∀ H3, Same H2 H3 → R v H3) → te (σ.set j (some x)) H2 R)
    (q : ∀ D H2, H1 D = none → Same H1 H2 → H2 D = some (.lst L) → Q (.ref D) H2) : LcG (Itt K a) H1 (gName j) tYes te [j] σ Q := by
  intro D hD
  refine lc_tup (fun i H' => Same H1 H' ∧ H' D = some (.lst (L.take i))) ⟨same_new hD, by rw [upd_same]; rfl⟩ (fun i H' _ ⟨sm, _⟩ => same_t sm hx) (fun i x H' hi ⟨sm, hd⟩ => ?_) (fun H' ⟨sm, hd⟩ => q D H' hD sm (by rw [hd, List.take_of_length_le (by omega)]))
  have hil := (List.getElem?_eq_some_iff.mp hi).1
  show wipe ((wipe σ [j]).set j _) [j] = wipe σ [j] ∧ _
  rw [wipe_set]
  refine ⟨wipe_set2, ?_⟩
  refine hs i x (L[i]'(by omega)) H' _ hi (List.getElem?_eq_getElem (by omega)) sm fun H3 s3 => ?_
  refine ⟨L.take i, s3 _ _ hd, Nat.lt_of_le_of_lt (Nat.le_trans (by rw [List.length_take]; exact Nat.min_le_left _ _) (show i ≤ 1000000 by omega)) (by rw [sizeLine_eq]; decide), same_mut (sm.trans s3) hD, ?_⟩
  rw [upd_same, List.take_add_one, List.getElem?_eq_getElem (show i < L.length by omega)]
  rfl
/-- [e for x in xs], xs a list -/
theorem k_lcl {a : Addr} {xs : List V} {j : Nat} (hx : SqL K H1 a xs) (L : List V) (hl : L.length = xs.length) (hz : xs.length ≤ 1000000)
    (hs : ∀ (i : Nat) (x v : V) (H2 : Hp) (R : VK), xs[i]? = some x → L[i]? = some v → Same H1 H2 → (∀ H3, Same H2 H3 → R v H3) → te (σ.set j (some x)) H2 R)
    (q : ∀ D H2, H1 D = none → Same H1 H2 → H2 D = some (.lst L) → Q (.ref D) H2) : LcG (Itl K a) H1 (gName j) tYes te [j] σ Q := by
  intro D hD
  refine lc_list (fun i H' => Same H1 H' ∧ H' D = some (.lst (L.take i))) ⟨same_new hD, by rw [upd_same]; rfl⟩ (fun i H' _ ⟨sm, _⟩ => same_l sm hx) (fun i x H' hi ⟨sm, hd⟩ => ?_) (fun H' ⟨sm, hd⟩ => q D H' hD sm (by rw [hd, List.take_of_length_le (by omega)]))
  have hil := (List.getElem?_eq_some_iff.mp hi).1
  show wipe ((wipe σ [j]).set j _) [j] = wipe σ [j] ∧ _
  rw [wipe_set]
  refine ⟨wipe_set2, ?_⟩
  refine hs i x (L[i]'(by omega)) H' _ hi (List.getElem?_eq_getElem (by omega)) sm fun H3 s3 => ?_
  refine ⟨L.take i, s3 _ _ hd, Nat.lt_of_le_of_lt (Nat.le_trans (by rw [List.length_take]; exact Nat.min_le_left _ _) (show i ≤ 1000000 by omega)) (by rw [sizeLine_eq]; decide), same_mut (sm.trans s3) hD, ?_⟩
  rw [upd_same, List.take_add_one, List.getElem?_eq_getElem (show i < L.length by omega)]
  rfl
/-! ### operators by values -/
def rAddA : R2 := fun x y H Q => rI0 (fun i j => .int (i + j)) x y H Q ∨ (∃ i j, x = .str i ∧ y = .str j ∧ i.length + j.length ≤ sizeLine ∧ Q (.str (i ++ j)) H) ∨ rCat x y H Q
theorem op_addA {X : Cx} : OpR X (binaryOp .Add) rAddA := op_add.or (op_add_str.or op_cat)
theorem k_add (q : Q (.int (a + b)) H) : rAddA (.int a) (.int b) H Q := .inl ⟨a, b, rfl, rfl, q⟩
def rEqA (K : PySem.W.Frag) : R2 := fun x y H Q => rEq x y H Q ∨ rEqD K x y H Q
def rNeA (K : PySem.W.Frag) : R2 := fun x y H Q => rNe x y H Q ∨ rNeD K x y H Q
theorem op_eqA {X : Cx} (hu : X.A.units + 64 < cLine) : OpR X (compareOp .Eq) (rEqA X.K) := op_eq.or (op_eqD hu)
theorem op_neA {X : Cx} (hu : X.A.units + 64 < cLine) : OpR X (compareOp .NotEq) (rNeA X.K) := op_ne.or (op_neD hu)
theorem dec_i : decide (V.int a = V.int b) = decide (a = b) := by
  by_cases h : a = b
  · subst h; simp
  · rw [decide_eq_false h, decide_eq_false (fun e => h (V.int.inj e))]
theorem dec_b {a b : Bool} : decide (V.bl a = V.bl b) = decide (a = b) := by
  by_cases h : a = b
  · subst h; simp
  · rw [decide_eq_false h, decide_eq_false (fun e => h (V.bl.inj e))]
theorem dec_s {a b : Str} : decide (V.str a = V.str b) = decide (a = b) := by
  by_cases h : a = b
  · subst h; simp
  · rw [decide_eq_false h, decide_eq_false (fun e => h (V.str.inj e))]
theorem k_eq (q : Q (.bl (decide (a = b))) H) : rEqA K (.int a) (.int b) H Q := .inl ⟨rfl, by rw [dec_i]; exact q⟩
theorem k_ne (q : Q (.bl (!decide (a = b))) H) : rNeA K (.int a) (.int b) H Q := .inl ⟨rfl, by rw [dec_i]; exact q⟩
theorem k_eqb {a b : Bool} (q : Q (.bl (decide (a = b))) H) : rEqA K (.bl a) (.bl b) H Q := .inl ⟨rfl, by rw [dec_b]; exact q⟩
theorem k_neb {a b : Bool} (q : Q (.bl (!decide (a = b))) H) : rNeA K (.bl a) (.bl b) H Q := .inl ⟨rfl, by rw [dec_b]; exact q⟩
theorem k_eqs {a b : Str} (q : Q (.bl (decide (a = b))) H) : rEqA K (.str a) (.str b) H Q := .inl ⟨rfl, by rw [dec_s]; exact q⟩
theorem k_nes {a b : Str} (q : Q (.bl (!decide (a = b))) H) : rNeA K (.str a) (.str b) H Q := .inl ⟨rfl, by rw [dec_s]; exact q⟩
theorem k_ixT {p : Addr} {xs : List V} {i : Int} (h : SqT K H p xs) (ha : atI xs i = some v) (q : Q v H) : rIx K (.ref p) (.int i) H Q := .inr (.inl ⟨p, xs, i, v, rfl, rfl, h, ha, q⟩)
theorem k_ixL {p : Addr} {xs : List V} {i : Int} (h : SqL K H p xs) (ha : atI xs i = some v) (q : Q v H) : rIx K (.ref p) (.int i) H Q := .inl ⟨p, xs, i, v, rfl, rfl, h, ha, q⟩
theorem inV_ints {a : Int} : ∀ l : List Int, inV (.int a) (l.map V.int) = decide (a ∈ l)
  | [] => rfl
  | x :: r => by
    have ih := inV_ints (a := a) r
    show (inV (.int a) (.int x :: r.map V.int)) = _
    unfold inV at ih ⊢
    rw [List.any_cons, ih]
    have e : eqV (.int x) (.int a) = decide (a = x) := by
      show (x == a) = decide (a = x)
      by_cases h : a = x
      · subst h; simp
      · rw [decide_eq_false h]; simpa using fun e => h e.symm
    by_cases h : a = x
    · subst h; simp [e]
    · simp [e, h]
theorem flat_ints : ∀ l : List Int, (l.map V.int).all flatV = true
  | [] => rfl
  | x :: r => by rw [List.map_cons, List.all_cons, flat_ints r]; rfl
theorem k_inL {neg : Bool} {p : Addr} {l : List Int} (h : SqL K H p (l.map V.int)) (q : Q (.bl (if neg then !decide (a ∈ l) else decide (a ∈ l))) H) : rIn K neg (.int a) (.ref p) H Q :=
  ⟨p, l.map V.int, rfl, .inl h, rfl, flat_ints l, by rw [inV_ints]; exact q⟩
theorem k_notinL {p : Addr} {l : List Int} (h : SqL K H p (l.map V.int)) (q : Q (.bl (!decide (a ∈ l))) H) : rIn K true (.int a) (.ref p) H Q := k_inL (neg := true) h q
theorem k_inL' {p : Addr} {l : List Int} (h : SqL K H p (l.map V.int)) (q : Q (.bl (decide (a ∈ l))) H) : rIn K false (.int a) (.ref p) H Q := k_inL (neg := false) h q
theorem inV2 {x y : Int} : inV (.int a) [.int x, .int y] = decide (a = x ∨ a = y) := by
  have h := inV_ints (a := a) [x, y]
  have e : (decide (a ∈ [x, y])) = decide (a = x ∨ a = y) := by
    have : a ∈ [x, y] ↔ (a = x ∨ a = y) := by simp
    simp [this]
  exact h.trans e
theorem k_notin2 {p : Addr} {x y : Int} (h : SqL K H p [.int x, .int y]) (q : Q (.bl (!decide (a = x ∨ a = y))) H) : rIn K true (.int a) (.ref p) H Q :=
  ⟨p, _, rfl, .inl h, rfl, rfl, by rw [inV2]; exact q⟩
theorem k_in2 {p : Addr} {x y : Int} (h : SqL K H p [.int x, .int y]) (q : Q (.bl (decide (a = x ∨ a = y))) H) : rIn K false (.int a) (.ref p) H Q :=
  ⟨p, _, rfl, .inl h, rfl, rfl, by rw [inV2]; exact q⟩
def rIsN : R2 := fun x y H Q => y = .non ∧ Q (.bl (decide (x = .non))) H
def rNotN : R2 := fun x y H Q => y = .non ∧ Q (.bl (!decide (x = .non))) H
theorem kb_isN {X : Cx} : OpR X (compareOp .Is) rIsN := op_isN
theorem kb_notN {X : Cx} : OpR X (compareOp .IsNot) rNotN := op_notN
theorem k_isN_n (q : Q (.bl true) H) : rIsN .non .non H Q := ⟨rfl, q⟩
theorem k_isN_i (q : Q (.bl false) H) : rIsN (.int a) .non H Q := ⟨rfl, q⟩
theorem k_isN_r {p : Addr} (q : Q (.bl false) H) : rIsN (.ref p) .non H Q := ⟨rfl, q⟩
theorem k_notN_n (q : Q (.bl false) H) : rNotN .non .non H Q := ⟨rfl, q⟩
theorem k_notN_i (q : Q (.bl true) H) : rNotN (.int a) .non H Q := ⟨rfl, q⟩
theorem k_notN_r {p : Addr} (q : Q (.bl true) H) : rNotN (.ref p) .non H Q := ⟨rfl, q⟩
/-! ### calls of built-ins by values -/
def rAbs : List V → Hp → VK → Prop := fun xs H Q => ∃ i, xs = [.int i] ∧ Q (.int (if i < 0 then -i else i)) H
theorem cb_abs {X : Cx} : CallR X (.builtin "abs") rAbs := call_abs
theorem k_abs (q : Q (.int (if a < 0 then -a else a)) H) : rAbs [.int a] H Q := ⟨a, rfl, q⟩
def rMax2 : List V → Hp → VK → Prop := fun xs H Q => ∃ i j, xs = [.int i, .int j] ∧ Q (.int (if j > i then j else i)) H
theorem cb_max2 {X : Cx} (hc : X.calm = true) : CallR X (.builtin "max") rMax2 := call_max2 hc
theorem k_max2 (q : Q (.int (if b > a then b else a)) H) : rMax2 [.int a, .int b] H Q := ⟨a, b, rfl, q⟩
def rMin2 : List V → Hp → VK → Prop := fun xs H Q => ∃ i j, xs = [.int i, .int j] ∧ Q (.int (if j < i then j else i)) H
theorem cb_min2 {X : Cx} (hc : X.calm = true) : CallR X (.builtin "min") rMin2 := call_min2 hc
theorem k_min2 (q : Q (.int (if b < a then b else a)) H) : rMin2 [.int a, .int b] H Q := ⟨a, b, rfl, q⟩
def rLen (K : PySem.W.Frag) : List V → Hp → VK → Prop := fun xs H Q => ∃ x n, xs = [x] ∧ LenV K x H n ∧ Q (.int n) H
theorem cb_len {X : Cx} : CallR X (.builtin "len") (rLen X.K) := call_len
theorem k_lenL {p : Addr} {xs : List V} (h : SqL K H p xs) (q : Q (.int (xs.length : Int)) H) : rLen K [.ref p] H Q := ⟨.ref p, xs.length, rfl, .inl ⟨xs, h, rfl⟩, q⟩
theorem k_lenT {p : Addr} {xs : List V} (h : SqT K H p xs) (q : Q (.int (xs.length : Int)) H) : rLen K [.ref p] H Q := ⟨.ref p, xs.length, rfl, .inr ⟨xs, h, rfl⟩, q⟩
def rDivmod : List V → Hp → VK → Prop := fun xs H Q => ∃ i j, xs = [.int i, .int j] ∧ CDivP i j ∧ ∀ p, H p = none → Q (.ref p) (upd H p (.tup [.int (i / j), .int (i % j)]))
theorem cb_divmod {X : Cx} : CallR X (.builtin "divmod") rDivmod := call_divmodW
theorem k_divmod (c : CDivP a b) (h : ∀ p H2, H p = none → Same H H2 → H2 p = some (.tup [.int (a / b), .int (a % b)]) → Q (.ref p) H2) : rDivmod [.int a, .int b] H Q :=
  ⟨a, b, rfl, c, fun p hp => h p _ hp (same_new hp) upd_same⟩
theorem k_sum {p : Addr} {l : List Int} (h : SqL K H p (l.map V.int)) (q : Q (.int l.sum) H) : rSum K [.ref p] H Q := ⟨p, l, rfl, h, q⟩
theorem k_all {p : Addr} {l : List Bool} (h : SqL K H p (l.map V.bl)) (q : Q (.bl (l.all id)) H) : rAll K [.ref p] H Q := ⟨p, l, rfl, h, q⟩
theorem k_any {p : Addr} {l : List Bool} (h : SqL K H p (l.map V.bl)) (q : Q (.bl (l.any id)) H) : rAny K [.ref p] H Q := ⟨p, l, rfl, h, q⟩
def rInt : List V → Hp → VK → Prop := fun xs H Q => (∃ i, xs = [.int i] ∧ Q (.int i) H) ∨ ∃ k, xs = [.bl k] ∧ Q (.int (if k then 1 else 0)) H
theorem cb_int {X : Cx} : CallR X (.type "int") rInt := call_int1
theorem k_intI (q : Q (.int a) H) : rInt [.int a] H Q := .inl ⟨a, rfl, q⟩
theorem k_intB {c : Bool} (q : Q (.int (if c then 1 else 0)) H) : rInt [.bl c] H Q := .inr ⟨c, rfl, q⟩
theorem k_isi_ii (q : Q (.bl true) H) : rIsi K [.int a, .ty "int"] H Q := ⟨.int a, .ty "int", .type "int", .type "int", true, rfl, .ty _, .base (.int _), kit_ty (by decide +kernel), q⟩
theorem k_isi_ib (q : Q (.bl false) H) : rIsi K [.int a, .ty "bool"] H Q := ⟨.int a, .ty "bool", .type "int", .type "bool", false, rfl, .ty _, .base (.int _), kit_ty (by decide +kernel), q⟩
theorem k_isi_bb {c : Bool} (q : Q (.bl true) H) : rIsi K [.bl c, .ty "bool"] H Q := ⟨.bl c, .ty "bool", .type "bool", .type "bool", true, rfl, .ty _, .base (.bl _), kit_ty (by decide +kernel), q⟩
theorem k_isi_it (q : Q (.bl false) H) : rIsi K [.int a, .ty "tuple"] H Q := ⟨.int a, .ty "tuple", .type "int", .type "tuple", false, rfl, .ty _, .base (.int _), kit_ty (by decide +kernel), q⟩
theorem tyx_t {p : Addr} {xs : List V} (h : SqT K H p xs) : TyX K H (.ref p) (.type "tuple") := by
  rcases h with (h | ⟨o, h⟩) | ⟨o, its, n, l, c, _⟩
  · exact .base (.tup h)
  · exact .fTuple h
  · exact .kTuple l c
theorem k_isi_tt {p : Addr} {xs : List V} (h : SqT K H p xs) (q : Q (.bl true) H) : rIsi K [.ref p, .ty "tuple"] H Q := ⟨.ref p, .ty "tuple", .type "tuple", .type "tuple", true, rfl, .ty _, tyx_t h, kit_ty (by decide +kernel), q⟩
/-! ### the rules that speak of the written part, by its own letter -/
section
variable {X : Cx} (K : PySem.W.Frag) (hK : X.K = K := by rfl)
include hK
theorem kb_ix : IxR X (rIx K) := hK ▸ ix_seq
theorem kb_eq (hu : X.A.units + 64 < cLine) : OpR X (compareOp .Eq) (rEqA K) := hK ▸ op_eqA hu
theorem kb_ne (hu : X.A.units + 64 < cLine) : OpR X (compareOp .NotEq) (rNeA K) := hK ▸ op_neA hu
theorem kb_in : OpR X (compareOp .In) (rIn K false) := hK ▸ op_in_seq
theorem kb_notIn : OpR X (compareOp .NotIn) (rIn K true) := hK ▸ op_notIn_seq
theorem kb_len : CallR X (.builtin "len") (rLen K) := hK ▸ cb_len
theorem kb_isi : CallR X (.builtin "isinstance") (rIsi K) := hK ▸ call_isi
theorem kb_sum (hc : X.calm = true) : CallR X (.builtin "sum") (rSum K) := hK ▸ cr_sum hc
theorem kb_max (hc : X.calm = true) : CallR X (.builtin "max") (rMax K) := hK ▸ cr_max hc
theorem kb_min (hc : X.calm = true) : CallR X (.builtin "min") (rMin K) := hK ▸ cr_min hc
theorem kb_all (hc : X.calm = true) : CallR X (.builtin "all") (rAll K) := hK ▸ cr_all hc
theorem kb_any (hc : X.calm = true) : CallR X (.builtin "any") (rAny K) := hK ▸ cr_any hc
end
/-- // by any divisor but 0, below 2 ^ 9000 -/
def CDivX (_ j : Int) : Prop := j ≠ 0 ∧ j.natAbs.log2 < 9000
theorem op_fdivX {X : Cx} : OpR X (binaryOp .FloorDiv) (rI CDivX fun i j => .int (i.fdiv j)) := opI fun i j _ _ _ _ _ hc q => floordiv_int hc.1 q (.inl (PyProof.noPylong_of_log2 hc.2))
/-- a power of written numbers -/
theorem pe_powc {X : Cx} {b e n : Int} {j1 j2 : Nat} {p1 p2 pos : Pos} (h : (0 ≤ e ∧ e ≤ 1000000 ∧ b.natAbs < 2 ^ 64) ∧ b ^ e.toNat = n) : PE X (.BinOp (.Constant (.int b) j1 p1) .Pow (.Constant (.int e) j2 p2) pos) (tC (.int n)) :=
  ⟨fun pins s σ H Q I q => (pe_op (X := X) op_pow pe_int pe_int).run pins s σ H Q I ⟨b, e, rfl, rfl, h.1, by show Q (.int (b ^ e.toNat)) H; rw [h.2]; exact q⟩⟩
end
/-! ### sizes -/
structure Sm (n : Nat) (i : Int) : Prop where
  h : i.natAbs < 2 ^ n
theorem sm_mono {a b : Nat} {i : Int} (h : Sm a i) (hab : a ≤ b) : Sm b i := ⟨Nat.lt_of_lt_of_le h.h (Nat.pow_le_pow_right (by decide) hab)⟩
theorem sm41 {i : Int} (h1 : -1000000000000000000000000000000000000000000000000000000000000 ≤ i) (h2 : i ≤ 1000000000000000000000000000000000000000000000000000000000000) : Sm 200 i := by
  have e : (2 : Nat) ^ 200 = 1606938044258990275541962092341162602522202993782792835301376 := by decide
  refine ⟨?_⟩
  rw [e]; omega
theorem mul_bd {x k X Y : Int} (h1 : 1 ≤ x) (h2 : x ≤ X) (h3 : 1 ≤ k) (h4 : k ≤ Y) : 1 ≤ x * k ∧ x * k ≤ X * Y := by
  refine ⟨Int.mul_pos (by omega) (by omega), ?_⟩
  exact Int.mul_le_mul h2 h4 (by omega) (by omega)
theorem mul_bd2 {x k X Y : Int} (h1 : -X ≤ x) (h2 : x ≤ X) (h3 : -Y ≤ k) (h4 : k ≤ Y) : -(X * Y) ≤ x * k ∧ x * k ≤ X * Y := by
  have e : (x * k).natAbs ≤ X.natAbs * Y.natAbs := by rw [Int.natAbs_mul]; exact Nat.mul_le_mul (by omega) (by omega)
  have e2 : ((X.natAbs * Y.natAbs : Nat) : Int) = X * Y := by
    rw [Int.natCast_mul, show ((X.natAbs : Nat) : Int) = X by omega, show ((Y.natAbs : Nat) : Int) = Y by omega]
  omega
theorem sm_mul {i j : Int} {a b : Nat} (ha : Sm a i) (hb : Sm b j) : Sm (a + b) (i * j) := ⟨wide_lt ha.h hb.h⟩
theorem sm_bits {i : Int} {n : Nat} (h : Builtin.Int.intBits i ≤ n) : Sm n i := by
  unfold Builtin.Int.intBits at h
  split at h
  · rename_i z
    have : i = 0 := by simpa using z
    subst this
    exact ⟨Nat.pow_pos (by decide)⟩
  · rename_i z
    have hz : i.natAbs ≠ 0 := by
      intro q
      apply z
      have : i = 0 := by omega
      subst this
      decide
    exact ⟨Nat.lt_of_lt_of_le ((Nat.log2_lt hz).mp (Nat.lt_succ_self _)) (Nat.pow_le_pow_right (by decide) h)⟩
theorem sm_mulx {i j : Int} {a b : Nat} (ha : Sm a i) (hb : Sm b j) (h : a + b ≤ 134217728) : CMulX i j := mulx_ok ha.h hb.h h
theorem sm_divx {i j : Int} {b : Nat} (h : j ≠ 0) (hb : Sm b j) (h0 : 0 < b) (h9 : b ≤ 9000) : CDivX i j := ⟨h, Nat.lt_of_lt_of_le (PySem.Flt.log2_lt_of h0 hb.h) h9⟩
theorem sm_div {i j : Int} {b : Nat} (h : 0 < j) (hb : Sm b j) (h0 : 0 < b) (h9 : b ≤ 9000) : CDivW i j := wide_div h hb.h h0 h9

/-! ### remainders: the mathematics -/
theorem gcd_abs (a b : Int) : Int.gcd (if a < 0 then -a else a) (if b < 0 then -b else b) = Int.gcd a b := by
  split <;> split <;> simp
theorem abs_nn (a : Int) : 0 ≤ (if a < 0 then -a else a) := by split <;> omega
theorem abs_le {a b : Int} (h1 : -b ≤ a) (h2 : a ≤ b) : (if a < 0 then -a else a) ≤ b := by split <;> omega
theorem gcd_mod (x y : Int) : Int.gcd y (x % y) = Int.gcd x y := by
  have e : x % y = x - y * (x / y) := Int.emod_def x y
  rw [e, Int.gcd_comm, Int.mul_comm, Int.gcd_sub_mul_right_left]
theorem gcd_zero (x : Int) (h : 0 ≤ x) : ((Int.gcd x 0 : Nat) : Int) = x := by
  rw [Int.gcd_zero_right]; omega
/-- the least common multiple of two numbers from 1 on, as the program reckons it -/
def lcmI (a b : Int) : Int := a / (Int.gcd a b : Nat) * b
theorem gcd_pos {a b : Int} (ha : 1 ≤ a) : 1 ≤ ((Int.gcd a b : Nat) : Int) := by
  have : Int.gcd a b ≠ 0 := fun h => by
    have := Int.gcd_eq_zero_iff.mp h
    omega
  omega
theorem gcd_le {a b : Int} (ha : 1 ≤ a) : ((Int.gcd a b : Nat) : Int) ≤ a := Int.le_of_dvd (by omega) (Int.gcd_dvd_left a b)
theorem gcd_le' {a b : Int} (hb : 1 ≤ b) : ((Int.gcd a b : Nat) : Int) ≤ b := Int.le_of_dvd (by omega) (Int.gcd_dvd_right a b)
theorem lcm_mul_gcd {a b : Int} (ha : 1 ≤ a) : lcmI a b * (Int.gcd a b : Nat) = a * b := by
  have h := Int.ediv_mul_cancel (Int.gcd_dvd_left a b)
  unfold lcmI
  rw [Int.mul_assoc, Int.mul_comm b, ← Int.mul_assoc, h]
theorem lcm_pos {a b : Int} (ha : 1 ≤ a) (hb : 1 ≤ b) : 1 ≤ lcmI a b := by
  have h := lcm_mul_gcd (b := b) ha
  have h1 := gcd_pos (b := b) ha
  have h2 : 0 < a * b := Int.mul_pos (by omega) (by omega)
  rw [← h] at h2
  have := Int.pos_of_mul_pos_left h2 (by omega)
  omega
theorem dvd_lcm_right (a b : Int) : b ∣ lcmI a b := ⟨_, Int.mul_comm _ _⟩
theorem dvd_lcm_left {a b : Int} (ha : 1 ≤ a) : a ∣ lcmI a b := by
  obtain ⟨k, hk⟩ := Int.gcd_dvd_right a b
  have h := lcm_mul_gcd (b := b) ha
  have h1 := gcd_pos (b := b) ha
  refine ⟨k, ?_⟩
  have e : lcmI a b * (Int.gcd a b : Nat) = a * k * (Int.gcd a b : Nat) := by
    rw [h, Int.mul_assoc, Int.mul_comm k, ← hk]
  exact Int.eq_of_mul_eq_mul_right (by omega) e
theorem lcm_comm {a b : Int} (ha : 1 ≤ a) (hb : 1 ≤ b) : lcmI a b = lcmI b a := by
  have h := lcm_mul_gcd (b := b) ha
  have h' := lcm_mul_gcd (b := a) hb
  have h1 := gcd_pos (b := b) ha
  rw [Int.gcd_comm b a, Int.mul_comm b a, ← h] at h'
  exact (Int.eq_of_mul_eq_mul_right (by omega) h').symm
theorem bezout_dvd {a b u v g x : Int} (e : u * a + v * b = g) (ha : x ∣ a) (hb : x ∣ b) : x ∣ g := by
  rw [← e]; exact Int.dvd_add (Int.dvd_mul_of_dvd_right ha) (Int.dvd_mul_of_dvd_right hb)
theorem lcm_least {a b x : Int} (ha : 1 ≤ a) (hb : 1 ≤ b) (h1 : a ∣ x) (h2 : b ∣ x) : lcmI a b ∣ x := by
  -- a * b divides x * gcd
  have hg := gcd_pos (b := b) ha
  have h := lcm_mul_gcd (b := b) ha
  have hd : a * b ∣ x * (Int.gcd a b : Nat) := by
    have e : x * ((Int.gcd a b : Nat) : Int) = ((Int.gcd (x * a) (x * b) : Nat) : Int) ∨ x * ((Int.gcd a b : Nat) : Int) = -((Int.gcd (x * a) (x * b) : Nat) : Int) := by
      rw [Int.gcd_mul_left, Int.natCast_mul]
      rcases Int.natAbs_eq x with hx | hx
      · left; rw [← hx]
      · right
        have : ((x.natAbs : Nat) : Int) = -x := by omega
        rw [this, Int.neg_mul, Int.neg_neg]
    have d1 : a * b ∣ x * a := by rw [Int.mul_comm x a]; exact Int.mul_dvd_mul (Int.dvd_refl a) h2
    have d2 : a * b ∣ x * b := by exact Int.mul_dvd_mul h1 (Int.dvd_refl b)
    have d3 := Int.dvd_coe_gcd d1 d2
    rcases e with e | e
    · rw [e]; exact d3
    · rw [e]; exact Int.dvd_neg.mpr d3
  rw [← h] at hd
  exact Int.dvd_of_mul_dvd_mul_right (by omega) hd
theorem lcm_le_mul {a b : Int} (ha : 1 ≤ a) (hb : 1 ≤ b) : lcmI a b ≤ a * b := by
  have h := lcm_mul_gcd (b := b) ha
  have hg := gcd_pos (b := b) ha
  have hl := lcm_pos ha hb
  have := Int.mul_le_mul_of_nonneg_left hg (show (0 : Int) ≤ lcmI a b by omega)
  omega
/-! ### the equation: one step, and how great its numbers grow -/
theorem eq_rest {r1 r2 : Int} (h : r2 ≠ 0) : (0 < r2 → 0 ≤ r1 - r1.fdiv r2 * r2 ∧ r1 - r1.fdiv r2 * r2 < r2) ∧ (r2 < 0 → r2 < r1 - r1.fdiv r2 * r2 ∧ r1 - r1.fdiv r2 * r2 ≤ 0) := by
  constructor
  · intro h0
    rw [Int.fdiv_eq_ediv_of_nonneg _ (by omega)]
    have e := Int.emod_def r1 r2
    rw [Int.mul_comm] at e
    rw [← e]
    exact ⟨Int.emod_nonneg _ h, Int.emod_lt_of_pos _ h0⟩
  · intro h0
    have e1 : r1.fdiv r2 = (-r1) / (-r2) := by
      rw [← Int.fdiv_eq_ediv_of_nonneg (-r1) (show 0 ≤ -r2 by omega), Int.neg_fdiv_neg]
    have e := Int.emod_def (-r1) (-r2)
    have p1 := Int.emod_nonneg (-r1) (show -r2 ≠ 0 by omega)
    have p2 := Int.emod_lt_of_pos (-r1) (show 0 < -r2 by omega)
    rw [e1]
    have : r1 - (-r1) / (-r2) * r2 = -((-r1) % (-r2)) := by
      rw [e, Int.neg_mul, Int.mul_comm r2]; omega
    rw [this]
    omega
theorem gcd_rest (r1 r2 q : Int) : Int.gcd r2 (r1 - q * r2) = Int.gcd r1 r2 := by
  rw [Int.gcd_comm, Int.gcd_sub_mul_right_left]
/-- the sum of both rests times the quotient is no more than four times the sum ahead -/
theorem eq_quot {r1 r2 : Int} (h : r2 ≠ 0) : (r1.fdiv r2).natAbs * r2.natAbs ≤ r1.natAbs + r2.natAbs := by
  have hr := eq_rest (r1 := r1) h
  rw [← Int.natAbs_mul]
  generalize r1.fdiv r2 * r2 = z at *
  rcases Int.lt_or_gt_of_ne h with h0 | h0
  · have := hr.2 h0; omega
  · have := hr.1 h0; omega
/-- numbers so far are at most M, M times the cube of the rests' sum at most B: it stays so -/
theorem eq_grow {r1 r2 : Int} {M B : Nat} (h : r2 ≠ 0) (hs : (0 < r1 ∧ 0 < r2) ∨ (r1 < 0 ∧ r2 < 0)) (hlt : r2.natAbs < r1.natAbs)
    (hB : M * (r1.natAbs + r2.natAbs) ^ 3 ≤ B) : (M * (1 + (r1.fdiv r2).natAbs)) * (r2.natAbs + (r1 - r1.fdiv r2 * r2).natAbs) ^ 3 ≤ B := by
  have hr := eq_rest (r1 := r1) h
  have key : (r1.fdiv r2).natAbs * r2.natAbs + (r1 - r1.fdiv r2 * r2).natAbs = r1.natAbs ∧ 1 ≤ (r1.fdiv r2).natAbs := by
    have e := Int.natAbs_mul (r1.fdiv r2) r2
    rw [← e]
    have q1 : r1.fdiv r2 ≠ 0 := by
      intro z
      rw [z, Int.zero_mul] at hr
      omega
    refine ⟨?_, by omega⟩
    have hq : 0 ≤ r1.fdiv r2 * r2 ∧ 0 < r2 ∨ r1.fdiv r2 * r2 ≤ 0 ∧ r2 < 0 := by
      rcases hs with hs | hs
      · left; refine ⟨?_, hs.2⟩
        have := hr.1 hs.2
        rw [Int.fdiv_eq_ediv_of_nonneg _ (by omega)]
        exact Int.mul_nonneg (Int.ediv_nonneg (by omega) (by omega)) (by omega)
      · right; refine ⟨?_, hs.2⟩
        have e1 : r1.fdiv r2 = (-r1) / (-r2) := by
          rw [← Int.fdiv_eq_ediv_of_nonneg (-r1) (show 0 ≤ -r2 by omega), Int.neg_fdiv_neg]
        rw [e1]
        exact Int.mul_nonpos_of_nonneg_of_nonpos (Int.ediv_nonneg (by omega) (by omega)) (by omega)
    generalize r1.fdiv r2 * r2 = z at *
    rcases hs with hs | hs
    · have := hr.1 hs.2; omega
    · have := hr.2 hs.2; omega
  have h3 : (r1 - r1.fdiv r2 * r2).natAbs < r2.natAbs := by
    generalize r1.fdiv r2 * r2 = z at *
    rcases hs with hs | hs
    · have := hr.1 hs.2; omega
    · have := hr.2 hs.2; omega
  generalize (r1 - r1.fdiv r2 * r2).natAbs = c at *
  generalize (r1.fdiv r2).natAbs = q at *
  generalize r2.natAbs = b at *
  generalize r1.natAbs = a at *
  obtain ⟨k1, k2⟩ := key
  -- S = a + b, S' = b + c; S' (1 + q) ≤ 2 S ; 3 S' ≤ 2 S
  have t1 : (b + c) * (1 + q) ≤ 2 * (a + b) := by
    have : (b + c) * (1 + q) ≤ (2 * b) * (1 + q) := Nat.mul_le_mul_right _ (by omega)
    have e : (2 * b) * (1 + q) = 2 * b + 2 * (q * b) := by rw [Nat.mul_add, Nat.mul_one, Nat.mul_assoc, Nat.mul_comm b q]
    omega
  have t2 : 3 * (b + c) ≤ 2 * (a + b) := by
    have : b ≤ q * b := Nat.le_mul_of_pos_left _ k2
    omega
  have t3 : (3 * (b + c)) * (3 * (b + c)) ≤ (2 * (a + b)) * (2 * (a + b)) := Nat.mul_le_mul t2 t2
  generalize a + b = S at *
  generalize b + c = S' at *
  have t4 : (M * (1 + q) * S') ≤ M * (2 * S) := by
    rw [Nat.mul_assoc, Nat.mul_comm (1 + q)]; exact Nat.mul_le_mul_left _ t1
  have t5 : (M * (1 + q) * S') * ((3 * S') * (3 * S')) ≤ (M * (2 * S)) * ((2 * S) * (2 * S)) := Nat.mul_le_mul t4 t3
  have e1 : (M * (1 + q) * S') * ((3 * S') * (3 * S')) = 9 * (M * (1 + q) * S' ^ 3) := by
    simp only [Nat.pow_succ, Nat.pow_zero, Nat.one_mul]; simp only [Nat.mul_assoc, Nat.mul_comm, Nat.mul_left_comm]
  have e2 : (M * (2 * S)) * ((2 * S) * (2 * S)) = 8 * (M * S ^ 3) := by
    simp only [Nat.pow_succ, Nat.pow_zero, Nat.one_mul]; simp only [Nat.mul_assoc, Nat.mul_comm, Nat.mul_left_comm]
  rw [e1, e2] at t5
  omega
/-- between two turns of the equation, behind the first one -/
structure Later (B : Nat) (u1 v1 r1 u2 v2 r2 : Int) : Prop where
  sg : (0 < r1 ∧ 0 < r2) ∨ (r1 < 0 ∧ r2 < 0) ∨ (r2 = 0 ∧ r1 ≠ 0)
  lt : r2.natAbs < r1.natAbs
  bd : ∃ M : Nat, u1.natAbs ≤ M ∧ v1.natAbs ≤ M ∧ u2.natAbs ≤ M ∧ v2.natAbs ≤ M ∧ M * (r1.natAbs + r2.natAbs) ^ 3 ≤ B
theorem Later.le {B : Nat} {u1 v1 r1 u2 v2 r2 : Int} (h : Later B u1 v1 r1 u2 v2 r2) : u1.natAbs ≤ B ∧ v1.natAbs ≤ B ∧ u2.natAbs ≤ B ∧ v2.natAbs ≤ B := by
  obtain ⟨M, a1, a2, a3, a4, hM⟩ := h.bd
  have hp : 0 < (r1.natAbs + r2.natAbs) ^ 3 := Nat.pow_pos (by have := h.lt; omega)
  have : M ≤ B := Nat.le_trans (Nat.le_mul_of_pos_right M hp) hM
  omega
theorem mul_sub_abs {u1 u2 q : Int} {M : Nat} (h1 : u1.natAbs ≤ M) (h2 : u2.natAbs ≤ M) : (u1 - q * u2).natAbs ≤ M * (1 + q.natAbs) := by
  have e : (q * u2).natAbs ≤ M * q.natAbs := by rw [Int.natAbs_mul, Nat.mul_comm]; exact Nat.mul_le_mul_right _ h2
  rw [Nat.mul_add, Nat.mul_one]
  omega
theorem Later.step {B : Nat} {u1 v1 r1 u2 v2 r2 : Int} (h : Later B u1 v1 r1 u2 v2 r2) (h0 : r2 ≠ 0) :
    Later B u2 v2 r2 (u1 - r1.fdiv r2 * u2) (v1 - r1.fdiv r2 * v2) (r1 - r1.fdiv r2 * r2) := by
  obtain ⟨M, a1, a2, a3, a4, hM⟩ := h.bd
  have hs : (0 < r1 ∧ 0 < r2) ∨ (r1 < 0 ∧ r2 < 0) := by have := h.sg; omega
  have hr := eq_rest (r1 := r1) h0
  refine ⟨?_, ?_, ⟨M * (1 + (r1.fdiv r2).natAbs), ?_, ?_, mul_sub_abs a1 a3, mul_sub_abs a2 a4, eq_grow h0 hs h.lt hM⟩⟩
  · generalize r1 - r1.fdiv r2 * r2 = z at *
    rcases hs with hs | hs
    · have := hr.1 hs.2; omega
    · have := hr.2 hs.2; omega
  · generalize r1 - r1.fdiv r2 * r2 = z at *
    rcases hs with hs | hs
    · have := hr.1 hs.2; omega
    · have := hr.2 hs.2; omega
  · exact Nat.le_trans a3 (Nat.le_mul_of_pos_right M (by omega))
  · exact Nat.le_trans a4 (Nat.le_mul_of_pos_right M (by omega))
theorem Later.first {a b : Int} {n : Nat} (ha : a.natAbs ≤ 2 ^ n) (hb : b.natAbs ≤ 2 ^ n) (h0 : b ≠ 0) :
    Later (2 ^ (4 * n + 6)) 0 1 b (1 - a.fdiv b * 0) (0 - a.fdiv b * 1) (a - a.fdiv b * b) := by
  have hr := eq_rest (r1 := a) h0
  have hq := eq_quot (r1 := a) h0
  have h1 : (a.fdiv b).natAbs ≤ 2 ^ n + 2 ^ n := by
    have : (a.fdiv b).natAbs * 1 ≤ (a.fdiv b).natAbs * b.natAbs := Nat.mul_le_mul_left _ (by omega)
    omega
  refine ⟨?_, ?_, ⟨1 + (a.fdiv b).natAbs, by omega, by omega, ?_, ?_, ?_⟩⟩
  · generalize a - a.fdiv b * b = z at *
    rcases Int.lt_or_gt_of_ne h0 with h | h
    · have := hr.2 h; omega
    · have := hr.1 h; omega
  · generalize a - a.fdiv b * b = z at *
    rcases Int.lt_or_gt_of_ne h0 with h | h
    · have := hr.2 h; omega
    · have := hr.1 h; omega
  · rw [Int.mul_zero]; omega
  · rw [Int.mul_one]; omega
  · have h2 : b.natAbs + (a - a.fdiv b * b).natAbs ≤ 2 * 2 ^ n := by
      generalize a - a.fdiv b * b = z at *
      rcases Int.lt_or_gt_of_ne h0 with h | h
      · have := hr.2 h; omega
      · have := hr.1 h; omega
    have hp : 1 ≤ 2 ^ n := Nat.pow_pos (by decide)
    have h3 : 1 + (a.fdiv b).natAbs ≤ 2 ^ (n + 2) := by rw [Nat.pow_add]; omega
    have h4 : (b.natAbs + (a - a.fdiv b * b).natAbs) ^ 3 ≤ (2 ^ (n + 1)) ^ 3 := Nat.pow_le_pow_left (by rw [Nat.pow_add]; omega) 3
    have h5 := Nat.mul_le_mul h3 h4
    rw [← Nat.pow_mul, ← Nat.pow_add] at h5
    exact Nat.le_trans h5 (Nat.pow_le_pow_right (by decide) (by omega))
theorem fdiv_abs_le {r1 r2 : Int} (h : r2 ≠ 0) : (r1.fdiv r2).natAbs ≤ r1.natAbs + r2.natAbs := by
  have hq := eq_quot (r1 := r1) h
  have : (r1.fdiv r2).natAbs * 1 ≤ (r1.fdiv r2).natAbs * r2.natAbs := Nat.mul_le_mul_left _ (by omega)
  omega
theorem rest_lt {r1 r2 : Int} (h : r2 ≠ 0) : (r1 - r1.fdiv r2 * r2).natAbs < r2.natAbs := by
  have hr := eq_rest (r1 := r1) h
  generalize r1 - r1.fdiv r2 * r2 = z at *
  rcases Int.lt_or_gt_of_ne h with h | h
  · have := hr.2 h; omega
  · have := hr.1 h; omega
theorem bez_step {a b u1 v1 r1 u2 v2 r2 q : Int} (h1 : u1 * a + v1 * b = r1) (h2 : u2 * a + v2 * b = r2) : (u1 - q * u2) * a + (v1 - q * v2) * b = r1 - q * r2 := by
  rw [← h1, ← h2, Int.sub_mul, Int.sub_mul, Int.mul_add, Int.mul_assoc, Int.mul_assoc]
  omega
theorem met_ok {n m r s u v : Int} (hn : 1 ≤ n) (hm : 1 ≤ m) (hb : u * n + v * m = (Int.gcd n m : Nat)) (hd : (s - r) % (Int.gcd n m : Nat) = 0) :
    n ∣ (r + n * u * ((s - r) / (Int.gcd n m : Nat))) % lcmI n m - r ∧ m ∣ (r + n * u * ((s - r) / (Int.gcd n m : Nat))) % lcmI n m - s := by
  have hg := gcd_pos (b := m) hn
  have hk : (Int.gcd n m : Nat) * ((s - r) / (Int.gcd n m : Nat)) = s - r := by
    have := Int.emod_add_mul_ediv (s - r) (Int.gcd n m : Nat)
    omega
  generalize ((Int.gcd n m : Nat) : Int) = g at *
  generalize (s - r) / g = k at *
  have hL1 := dvd_lcm_left (b := m) hn
  have hL2 := dvd_lcm_right n m
  have e := Int.emod_def (r + n * u * k) (lcmI n m)
  rw [e]
  generalize (r + n * u * k) / lcmI n m = z
  constructor
  · have : r + n * u * k - lcmI n m * z - r = n * (u * k) - lcmI n m * z := by rw [Int.mul_assoc]; omega
    rw [this]
    exact Int.dvd_sub (Int.dvd_mul_right _ _) (Int.dvd_mul_of_dvd_left hL1)
  · have h2 : n * u * k = g * k - m * (v * k) := by
      have : n * u = g - m * v := by rw [← hb, Int.mul_comm u n, Int.mul_comm v m]; omega
      rw [this, Int.sub_mul, Int.mul_assoc]
    have : r + n * u * k - lcmI n m * z - s = -(m * (v * k)) - lcmI n m * z := by omega
    rw [this]
    exact Int.dvd_sub (Int.dvd_neg.mpr (Int.dvd_mul_right _ _)) (Int.dvd_mul_of_dvd_left hL2)
theorem alike_both {n m r s x d : Int} (hn : 1 ≤ n) (hm : 1 ≤ m) (h1 : n ∣ x - r) (h2 : m ∣ x - s) : ((d - r) % n = 0 ∧ (d - s) % m = 0) ↔ (d - x) % lcmI n m = 0 := by
  constructor
  · rintro ⟨a1, a2⟩
    have b1 := Int.dvd_of_emod_eq_zero a1
    have b2 := Int.dvd_of_emod_eq_zero a2
    refine Int.emod_eq_zero_of_dvd (lcm_least hn hm ?_ ?_)
    · have := Int.dvd_sub b1 h1; rwa [show d - r - (x - r) = d - x by omega] at this
    · have := Int.dvd_sub b2 h2; rwa [show d - s - (x - s) = d - x by omega] at this
  · intro a
    have b := Int.dvd_of_emod_eq_zero a
    refine ⟨Int.emod_eq_zero_of_dvd ?_, Int.emod_eq_zero_of_dvd ?_⟩
    · have := Int.dvd_add (Int.dvd_trans (dvd_lcm_left hn) b) h1; rwa [show d - x + (x - r) = d - r by omega] at this
    · have := Int.dvd_add (Int.dvd_trans (dvd_lcm_right n m) b) h2; rwa [show d - x + (x - s) = d - s by omega] at this

/-! ### the walker: one step, by the head of the reading -/
local macro_rules | `(tactic| walk_at "hp") => `(tactic| first | assumption | (refine' same_t ?h1 ?h2; (case h1 => assumption); (case h2 => walk_at "hp")) | (refine' same_l ?h1 ?h2; (case h1 => assumption); (case h2 => walk_at "hp")) | (refine' same_at ?h1 ?h2; (case h1 => assumption); (case h2 => walk_at "hp")))
local macro_rules | `(tactic| walk_at "hl") => `(tactic| first | walk_at "hp" | (refine' SqL.of ?h1; (case h1 => walk_at "hp")))
local macro_rules | `(tactic| walk_at "ht") => `(tactic| first | walk_at "hp" | (refine' SqT.of ?h1; (case h1 => walk_at "hp")))
local macro_rules | `(tactic| walk_at "sm") => `(tactic| first | assumption | exact sm41 (by omega) (by omega) | (refine' sm_mul ?h1 ?h2; (case h1 => walk_at "sm"); (case h2 => walk_at "sm")))
local macro_rules | `(tactic| walk_at "sd") => `(tactic| first
  | omega
  | decide +kernel
  | exact sm_divx (b := 200) (by omega) (sm41 (by omega) (by omega)) (by decide) (by decide)
  | exact sm_div (b := 200) (by omega) (sm41 (by omega) (by omega)) (by decide) (by decide)
  | exact sm_mulx (by walk_at "sm") (by walk_at "sm") (by decide +kernel))
local macro_rules | `(tactic| walk_at "st") => `(tactic| first
  | (with_reducible apply k_seqA)
  | (with_reducible apply k_seqD)
  | (with_reducible apply k_seqP)
  | ((with_reducible apply k_var); (· rfl))
  | (with_reducible apply k_c)
  | (with_reducible apply k_op)
  | (with_reducible apply k_add)
  | (with_reducible apply k_I0)
  | (with_reducible apply k_asg)
  | (with_reducible apply k_call)
  | (with_reducible apply k_cb)
  | (with_reducible apply k_cons)
  | (with_reducible apply k_nil)
  | (with_reducible apply k_ret)
  | (with_reducible apply k_test)
  | (with_reducible apply k_eq)
  | (with_reducible apply k_ne)
  | (with_reducible apply k_bl)
  | ((with_reducible apply k_I); (· walk_at "sd"))
  | (with_reducible apply k_U)
  | (with_reducible apply k_un)
  | ((with_reducible apply k_ixT); (· walk_at "ht"); (· rfl))
  | ((with_reducible apply k_ixL); (· walk_at "hl"); (· rfl))
  | (with_reducible apply k_tup)
  | ((with_reducible apply k_newtup); (· exact Nat.le_of_ble_eq_true rfl); intro p H' hn hs ht)
  | (with_reducible apply k_lst)
  | ((with_reducible apply k_newlst); (· exact Nat.le_of_ble_eq_true rfl); intro p H' hn hs ht)
  | (with_reducible apply k_B)
  | (with_reducible apply k_and)
  | (with_reducible apply k_or)
  | (with_reducible apply k_not)
  | (with_reducible apply k_andV)
  | (with_reducible apply k_orV)
  | (with_reducible apply k_notV)
  | (with_reducible apply k_chain)
  | (with_reducible apply k_eqb)
  | (with_reducible apply k_neb)
  | (with_reducible apply k_drop)
  | (with_reducible apply k_next)
  | (with_reducible apply if_t)
  | (with_reducible apply if_f)
  | (with_reducible apply if_nt)
  | (with_reducible apply if_nf)
  | (with_reducible apply k_isi_ii)
  | (with_reducible apply k_isi_ib)
  | (with_reducible apply k_isi_bb)
  | (with_reducible apply k_isi_it)
  | ((with_reducible apply k_isi_tt); (· walk_at "ht"))
  | (with_reducible apply k_abs)
  | (with_reducible apply k_max2)
  | (with_reducible apply k_min2)
  | ((with_reducible apply k_lenT); (· walk_at "ht"))
  | ((with_reducible apply k_lenL); (· walk_at "hl"))
  | (with_reducible apply k_intI)
  | (with_reducible apply k_intB)
  | (with_reducible apply k_par)
  | (with_reducible apply k_par2)
  | (with_reducible apply k_ifx)
  | (with_reducible apply k_gname)
  | (with_reducible apply k_asgG)
  | (with_reducible apply k_retN)
  | (with_reducible apply k_isN_n)
  | (with_reducible apply k_isN_i)
  | (with_reducible apply k_isN_r)
  | (with_reducible apply k_notN_n)
  | (with_reducible apply k_notN_i)
  | (with_reducible apply k_notN_r)
  | (with_reducible apply k_lc)
  | (with_reducible apply k_itup)
  | (with_reducible apply k_ilst)
  | ((with_reducible apply k_sqt); (· walk_at "ht"))
  | ((with_reducible apply k_sql); (· walk_at "hl"))
  | (with_reducible apply k_irng1)
  | ((with_reducible apply k_rng1); (· first | decide | omega))
  | (with_reducible apply k_irng2)
  | ((with_reducible apply k_rng2); (· first | decide | omega))
  | ((with_reducible apply k_gtup); (· walk_at "ht"); (· rfl))
  | (with_reducible apply k_gcons)
  | (with_reducible apply k_gnil)
  | ((with_reducible apply k_notin2); (· walk_at "hl"))
  | ((with_reducible apply k_in2); (· walk_at "hl"))
  | ((with_reducible apply k_notinL); (· walk_at "hl"))
  | ((with_reducible apply k_inL'); (· walk_at "hl"))
  | ((with_reducible apply k_divmod); (· walk_at "sd"); intro p H' hn hs ht))
local macro_rules | `(tactic| walk_at "go") => `(tactic| repeat' walk_at "st")
/-- a branch: both ways, those that cannot be shut by omega -/
local macro_rules | `(tactic| walk_at "br") => `(tactic| (first | with_reducible apply if_dec | with_reducible apply if_ndec | with_reducible apply if_b) <;> intro hbr <;> first | (first | exact absurd (by assumption) hbr | exact absurd hbr (by assumption) | (exfalso; omega) | (exfalso; simp only [List.length_cons, List.length_nil] at hbr; omega)) | skip)
/-- an if statement: its test walked, the ways that can be -/
local macro_rules | `(tactic| walk_at "if") => `(tactic| ((first | with_reducible apply k_seqI | with_reducible apply k_if); walk_at "go"; walk_at "br"))
/-- a branch of which omega shuts one way -/
local macro_rules | `(tactic| walk_at "br1") => `(tactic| first
  | (with_reducible apply if_dec; (· (intro hbr; first | exact absurd (by assumption) hbr | exact absurd hbr (by assumption) | (exfalso; omega) | (exfalso; simp only [List.length_cons, List.length_nil] at hbr; omega))); intro hbr)
  | (with_reducible apply if_dec; rotate_left; (· (intro hbr; first | exact absurd (by assumption) hbr | exact absurd hbr (by assumption) | (exfalso; omega) | (exfalso; simp only [List.length_cons, List.length_nil] at hbr; omega))); intro hbr)
  | (with_reducible apply if_ndec; (· (intro hbr; first | exact absurd (by assumption) hbr | exact absurd hbr (by assumption) | (exfalso; omega) | (exfalso; simp only [List.length_cons, List.length_nil] at hbr; omega))); intro hbr)
  | (with_reducible apply if_ndec; rotate_left; (· (intro hbr; first | exact absurd (by assumption) hbr | exact absurd hbr (by assumption) | (exfalso; omega) | (exfalso; simp only [List.length_cons, List.length_nil] at hbr; omega))); intro hbr))
local macro_rules | `(tactic| walk_at "run") => `(tactic| repeat' (first | walk_at "st" | walk_at "br1" | with_reducible apply k_seqI | with_reducible apply k_if))
local macro_rules | `(tactic| walk_at "all") => `(tactic| repeat' (first | walk_at "st" | walk_at "br1" | walk_at "br" | with_reducible apply k_seqI | with_reducible apply k_if))

theorem alikeA {a b c : Prop} [Decidable c] (h : (a ∧ b) ↔ c) (ha : ¬ a) : decide (false = decide c) = true := by
  have : ¬ c := fun hc => ha (h.mpr hc).1
  rw [decide_eq_false this]; rfl
theorem alikeB {a b c : Prop} [Decidable b] [Decidable c] (h : (a ∧ b) ↔ c) (ha : a) : decide (decide b = decide c) = true := by
  by_cases hb : b
  · rw [decide_eq_true hb, decide_eq_true (h.mp ⟨ha, hb⟩)]; rfl
  · rw [decide_eq_false hb, decide_eq_false (fun hc => hb (h.mpr hc).2)]; rfl

def topS (i : Nat) : Stmt := PySem.Challenge.pw_feastwheel_k03_two_remainders_met.main.body.getD i (.Pass ⟨0, 0, 0, 0⟩)
abbrev s_Lcell_at : Stmt := topS 10
theorem sc_Lcell_at : FnScope ["_law_script", "_law_k"] ["_law_script", "_law_k"] (defScope s_Lcell_at) := ⟨rfl, rfl, rfl, by decide +kernel, rfl, by decide +kernel, by decide +kernel⟩
abbrev s_Lsizes : Stmt := topS 12
theorem sc_Lsizes : FnScope ["_law_script", "_law_one", "_law_other", "_law_shared"] ["_law_script"] (defScope s_Lsizes) := ⟨rfl, rfl, rfl, by decide +kernel, rfl, by decide +kernel, by decide +kernel⟩
abbrev s_Lrests : Stmt := topS 13
theorem sc_Lrests : FnScope ["_law_script", "_law_one", "_law_other", "_law_rest", "_law_other_rest", "_law_far"] ["_law_script", "_law_one", "_law_other"] (defScope s_Lrests) := ⟨rfl, rfl, rfl, by decide +kernel, rfl, by decide +kernel, by decide +kernel⟩
abbrev s_sized : Stmt := topS 6
theorem sc_sized : FnScope ["size"] ["size"] (defScope s_sized) := ⟨rfl, rfl, rfl, by decide +kernel, rfl, by decide +kernel, by decide +kernel⟩
abbrev s_equation : Stmt := topS 5
theorem sc_equation : FnScope ["one", "other", "first", "second", "times", "rest", "k"] ["one", "other"] (defScope s_equation) := ⟨rfl, rfl, rfl, by decide +kernel, rfl, by decide +kernel, by decide +kernel⟩
abbrev s_divisor : Stmt := topS 4
theorem sc_divisor : FnScope ["one", "other"] ["one", "other"] (defScope s_divisor) := ⟨rfl, rfl, rfl, by decide +kernel, rfl, by decide +kernel, by decide +kernel⟩
abbrev s_common : Stmt := topS 7
theorem sc_common : FnScope ["one", "other"] ["one", "other"] (defScope s_common) := ⟨rfl, rfl, rfl, by decide +kernel, rfl, by decide +kernel, by decide +kernel⟩
abbrev s_met : Stmt := topS 8
theorem sc_met : FnScope ["rest", "size", "other_rest", "other_size", "by_one", "by_other", "shared", "apart", "whole"] ["rest", "size", "other_rest", "other_size"] (defScope s_met) := ⟨rfl, rfl, rfl, by decide +kernel, rfl, by decide +kernel, by decide +kernel⟩
abbrev s_Lwhole : Stmt := topS 11
theorem sc_Lwhole : FnScope ["_law_found"] ["_law_found"] (defScope s_Lwhole) := ⟨rfl, rfl, rfl, by decide +kernel, rfl, by decide +kernel, by decide +kernel⟩
abbrev s_law : Stmt := topS 14
theorem sc_law : FnScope ["_law_script", "_law_one", "_law_other", "_law_rest", "_law_other_rest", "_law_found", "_law_day", "_law_alike"] ["_law_script"] (defScope s_law) := ⟨rfl, rfl, rfl, by decide +kernel, rfl, by decide +kernel, by decide +kernel⟩
structure Txt (K : PySem.W.Frag) (mg : Str → Option Value) where
  a_Lcell_at : Addr
  fd_Lcell_at : FuncData
  F_Lcell_at : Fun K "_law_cell_at" "_law_cell_at" s_Lcell_at a_Lcell_at fd_Lcell_at
  g_Lcell_at : mg "_law_cell_at" = some (.ref a_Lcell_at)
  b_Lcell_at : Binds K fd_Lcell_at ["_law_script", "_law_k"] []
  a_Lsizes : Addr
  fd_Lsizes : FuncData
  F_Lsizes : Fun K "_law_sizes" "_law_sizes" s_Lsizes a_Lsizes fd_Lsizes
  g_Lsizes : mg "_law_sizes" = some (.ref a_Lsizes)
  b_Lsizes : Binds K fd_Lsizes ["_law_script"] []
  a_Lrests : Addr
  fd_Lrests : FuncData
  F_Lrests : Fun K "_law_rests" "_law_rests" s_Lrests a_Lrests fd_Lrests
  g_Lrests : mg "_law_rests" = some (.ref a_Lrests)
  b_Lrests : Binds K fd_Lrests ["_law_script", "_law_one", "_law_other"] []
  a_sized : Addr
  fd_sized : FuncData
  F_sized : Fun K "sized" "sized" s_sized a_sized fd_sized
  g_sized : mg "sized" = some (.ref a_sized)
  b_sized : Binds K fd_sized ["size"] []
  a_equation : Addr
  fd_equation : FuncData
  F_equation : Fun K "equation" "equation" s_equation a_equation fd_equation
  g_equation : mg "equation" = some (.ref a_equation)
  b_equation : Binds K fd_equation ["one", "other"] []
  a_divisor : Addr
  fd_divisor : FuncData
  F_divisor : Fun K "divisor" "divisor" s_divisor a_divisor fd_divisor
  g_divisor : mg "divisor" = some (.ref a_divisor)
  b_divisor : Binds K fd_divisor ["one", "other"] []
  a_common : Addr
  fd_common : FuncData
  F_common : Fun K "common" "common" s_common a_common fd_common
  g_common : mg "common" = some (.ref a_common)
  b_common : Binds K fd_common ["one", "other"] []
  a_met : Addr
  fd_met : FuncData
  F_met : Fun K "met" "met" s_met a_met fd_met
  g_met : mg "met" = some (.ref a_met)
  b_met : Binds K fd_met ["rest", "size", "other_rest", "other_size"] []
  a_Lwhole : Addr
  fd_Lwhole : FuncData
  F_Lwhole : Fun K "_law_whole" "_law_whole" s_Lwhole a_Lwhole fd_Lwhole
  g_Lwhole : mg "_law_whole" = some (.ref a_Lwhole)
  b_Lwhole : Binds K fd_Lwhole ["_law_found"] []
  a_law : Addr
  fd_law : FuncData
  F_law : Fun K "law" "law" s_law a_law fd_law
  g_law : mg "law" = some (.ref a_law)
  b_law : Binds K fd_law ["_law_script"] []
  n_abs : mg "abs" = none
  n_bool : mg "bool" = none
  n_int : mg "int" = none
  n_isinstance : mg "isinstance" = none
  n_len : mg "len" = none
  n_range : mg "range" = none
  n_tuple : mg "tuple" = none
section
variable {P : Program} {w : World} {K : PySem.W.Frag} {mg : Str → Option Value} {base : Heap}
/-! ### _law_cell_at -/
/-- a cell of the script; nought behind its end -/
def sp_Lcell_at (K : PySem.W.Frag) : Sp := fun vs H Q _ => ∃ (a : Addr) (ns : List Int) (k : Int), vs = [.ref a, .int k] ∧ SqL K H a (ns.map V.int) ∧ 0 ≤ k ∧ Q (.int (ns.getD k.toNat 0)) H
theorem ok_Lcell_at (T : Txt K mg) : FnOk P w K mg base CX0 1 T.a_Lcell_at T.fd_Lcell_at ["_law_script", "_law_k"] (sp_Lcell_at K) := by
  refine T.F_Lcell_at.ok sc_Lcell_at (fun vs H Q E h => ?_) (fun cdv A outer s H vs Q E hr h => ?_)
  · obtain ⟨_, _, _, rfl, _⟩ := h; rfl
  · obtain ⟨a, ns, k, rfl, hS, h0, q⟩ := h
    refine ⟨_, (pss_cons (ps_if (pt_cmpR op_lt (pv 1) (pe_callB (kb_len K) (by rfl) T.n_len (by decide +kernel) (pa_cons (pv 0) pa_nil)) (nomark _)) (pss_one (ps_ret (pe_ix (kb_ix K) (pv 0) (pv 1) (fun _ _ => rfl)))) pss_nil)
        (pss_one (ps_ret pe_int))), ?_⟩
    apply k_seqI; walk_at "go"
    refine if_dec (fun hk => ?_) (fun hk => ?_)
    · walk_at "go"
      rw [List.length_map] at hk
      have e : ((ns.map V.int)[k.toNat]?) = some (V.int (ns.getD k.toNat 0)) := by
        rw [List.getElem?_map, List.getElem?_eq_getElem (show k.toNat < ns.length by omega), List.getD_eq_getElem?_getD, List.getElem?_eq_getElem (show k.toNat < ns.length by omega)]
        rfl
      exact k_ixL hS (at_of (show k = ((k.toNat : Nat) : Int) by omega) e) q
    · walk_at "go"
      rw [List.length_map] at hk
      have e : ns.getD k.toNat 0 = 0 := by
        rw [List.getD_eq_getElem?_getD, List.getElem?_eq_none (by omega)]; rfl
      rw [e] at q
      exact q
theorem sm_getD {ns : List Int} {n : Nat} (hb : ∀ z ∈ ns, Builtin.Int.intBits z ≤ n) (k : Nat) : Sm n (ns.getD k 0) := by
  rw [List.getD_eq_getElem?_getD]
  by_cases h : k < ns.length
  · rw [List.getElem?_eq_getElem h]; exact sm_bits (hb _ (List.getElem_mem h))
  · rw [List.getElem?_eq_none (by omega)]; exact ⟨Nat.pow_pos (by decide)⟩
theorem k_cell {H : Hp} {Q : VK} {E : XK} {a : Addr} {ns : List Int} {k : Int} (hb : ∀ z ∈ ns, Builtin.Int.intBits z ≤ 1048576) (hS : SqL K H a (ns.map V.int)) (h0 : 0 ≤ k)
    (q : ∀ c, c = ns.getD k.toNat 0 → Sm 1048576 c → Q (.int c) H) : sp_Lcell_at K [.ref a, .int k] H Q E := ⟨a, ns, k, rfl, hS, h0, q _ rfl (sm_getD hb _)⟩
local macro_rules | `(tactic| walk_at "st") => `(tactic| ((with_reducible apply k_cell); (· assumption); (· walk_at "hp"); (· decide); intro c hc hm))

/-! ### _law_sizes -/
def sp_Lsizes (K : PySem.W.Frag) : Sp := fun vs H Q _ => ∃ (a : Addr) (ns : List Int), vs = [.ref a] ∧ SqL K H a (ns.map V.int) ∧ (∀ z ∈ ns, Builtin.Int.intBits z ≤ 1048576) ∧
  ∀ (i j : Int) (p : Addr) (H' : Hp), 1 ≤ i → i ≤ 100000000000000000000000000000000000000000000 → 1 ≤ j → j ≤ 100000000000000000000000000000000000000000000 → Same H H' → SqT K H' p [.int i, .int j] → Q (.ref p) H'
def PN (a : Addr) (H : Hp) (B : Int) : L2.St → Hp → Prop := fun σ' H' => ∃ (x y : Int) (v : Option V), σ' = [some (.ref a), some (.int x), some (.int y), v] ∧ H = H' ∧ 1 ≤ x ∧ x ≤ B ∧ 1 ≤ y ∧ y ≤ B
theorem ok_Lsizes (T : Txt K mg) : FnOk P w K mg base CX0 2 T.a_Lsizes T.fd_Lsizes ["_law_script"] (sp_Lsizes K) := by
  refine T.F_Lsizes.ok sc_Lsizes (fun vs H Q E h => ?_) (fun cdv A outer s H vs Q E hr h => ?_)
  · obtain ⟨_, _, rfl, _⟩ := h; rfl
  · obtain ⟨a, ns, rfl, hS, hb, q⟩ := h
    have hu := hr.units
    refine ⟨_, (pss_cons (ps_set (i := 1) sc_Lsizes.nd rfl (Or.inl rfl) (pe_op op_addA pe_int (pe_op op_mod (pe_call (ok_Lcell_at T) (hr.mono (by decide)) (by rfl) T.g_Lcell_at T.F_Lcell_at.kp T.b_Lcell_at .nil pass0 (pa_cons (pv 0) (pa_cons pe_int pa_nil))) (pe_powc (n := 10000000000000000000000000000000000000000) (by decide +kernel)))))
        (pss_cons (ps_set (i := 2) sc_Lsizes.nd rfl (Or.inl rfl) (pe_op op_addA pe_int (pe_op op_mod (pe_call (ok_Lcell_at T) (hr.mono (by decide)) (by rfl) T.g_Lcell_at T.F_Lcell_at.kp T.b_Lcell_at .nil pass0 (pa_cons (pv 0) (pa_cons pe_int pa_nil))) (pe_powc (n := 10000000000000000000000000000000000000000) (by decide +kernel)))))
        (pss_cons (ps_if (pt_cmpR (kb_eq K (hu := hu)) (pe_op op_mod (pe_call (ok_Lcell_at T) (hr.mono (by decide)) (by rfl) T.g_Lcell_at T.F_Lcell_at.kp T.b_Lcell_at .nil pass0 (pa_cons (pv 0) (pa_cons pe_int pa_nil))) pe_int) pe_int (nomark _)) (pss_one (ps_ret (pe_tup (pa_cons (pe_op op_addA pe_int (pe_op op_mod (pv 1) pe_int)) (pa_cons (pe_op op_addA pe_int (pe_op op_mod (pv 2) pe_int)) pa_nil))))) pss_nil)
        (pss_cons (ps_if (pt_cmpR (kb_eq K (hu := hu)) (pe_op op_mod (pe_call (ok_Lcell_at T) (hr.mono (by decide)) (by rfl) T.g_Lcell_at T.F_Lcell_at.kp T.b_Lcell_at .nil pass0 (pa_cons (pv 0) (pa_cons pe_int pa_nil))) pe_int) pe_int (nomark _)) (pss_cons (ps_set (i := 3) sc_Lsizes.nd rfl (Or.inl rfl) (pe_op op_addA pe_int (pe_op op_mod (pe_call (ok_Lcell_at T) (hr.mono (by decide)) (by rfl) T.g_Lcell_at T.F_Lcell_at.kp T.b_Lcell_at .nil pass0 (pa_cons (pv 0) (pa_cons pe_int pa_nil))) (pe_powc (n := 1000000) (by decide +kernel)))))
        (pss_cons (ps_set (i := 1) sc_Lsizes.nd rfl (Or.inl rfl) (pe_op op_mulX (pv 3) (pe_op op_addA pe_int (pe_op op_mod (pv 1) pe_int))))
        (pss_one (ps_set (i := 2) sc_Lsizes.nd rfl (Or.inl rfl) (pe_op op_mulX (pv 3) (pe_op op_addA pe_int (pe_op op_mod (pv 2) pe_int))))))) pss_nil)
        (pss_one (ps_ret (pe_tup (pa_cons (pv 1) (pa_cons (pv 2) pa_nil))))))))), ?_⟩
    walk_at "go"
    rename_i c _ _ d _ _
    generalize hi : 1 + c % 10000000000000000000000000000000000000000 = x
    generalize hj : 1 + d % 10000000000000000000000000000000000000000 = y
    walk_at "if"
    · walk_at "go"
      refine q _ _ _ _ ?_ ?_ ?_ ?_ (by assumption) (SqT.of (by assumption)) <;> omega
    walk_at "go"
    with_reducible refine k_cutI (PN a H 100000000000000000000000000000000000000000000) (fun N hN => ?_) ?_
    · walk_at "go"; walk_at "br"
      · walk_at "go"
        rename_i z _ _
        have hm := mul_bd (show 1 ≤ 1 + z % 1000000 by omega) (show 1 + z % 1000000 ≤ 10000000000 by omega) (show 1 ≤ 1 + x % 96 by omega) (show 1 + x % 96 ≤ 100 by omega)
        have hn := mul_bd (show 1 ≤ 1 + z % 1000000 by omega) (show 1 + z % 1000000 ≤ 10000000000 by omega) (show 1 ≤ 1 + y % 96 by omega) (show 1 + y % 96 ≤ 100 by omega)
        exact hN _ _ ⟨_, _, _, rfl, rfl, by omega, by omega, by omega, by omega⟩
      · walk_at "go"; exact hN _ _ ⟨_, _, _, rfl, rfl, by omega, by omega, by omega, by omega⟩
    rintro _ _ ⟨x, y, v, rfl, rfl, hx, hx', hy, hy'⟩
    walk_at "go"
    exact q _ _ _ _ hx hx' hy hy' (by assumption) (SqT.of (by assumption))
theorem k_Lsizes {H : Hp} {Q : VK} {E : XK} {a : Addr} {ns : List Int} (hb : ∀ z ∈ ns, Builtin.Int.intBits z ≤ 1048576) (hS : SqL K H a (ns.map V.int))
    (q : ∀ (i j : Int) (p : Addr) (H' : Hp), 1 ≤ i → i ≤ 100000000000000000000000000000000000000000000 → 1 ≤ j → j ≤ 100000000000000000000000000000000000000000000 → Same H H' → SqT K H' p [.int i, .int j] → Q (.ref p) H') : sp_Lsizes K [.ref a] H Q E := ⟨a, ns, rfl, hS, hb, q⟩
local macro_rules | `(tactic| walk_at "st") => `(tactic| ((with_reducible apply k_Lsizes); (· assumption); (· walk_at "hp"); intro i j p H' hi hi' hj hj' hs ht))

/-! ### _law_rests -/
def sp_Lrests (K : PySem.W.Frag) : Sp := fun vs H Q _ => ∃ (a : Addr) (ns : List Int) (n m : Int), vs = [.ref a, .int n, .int m] ∧ SqL K H a (ns.map V.int) ∧ (∀ z ∈ ns, Builtin.Int.intBits z ≤ 1048576) ∧
  1 ≤ n ∧ n ≤ 100000000000000000000000000000000000000000000 ∧ 1 ≤ m ∧ m ≤ 100000000000000000000000000000000000000000000 ∧
  ∀ (i j : Int) (p : Addr) (H' : Hp), -100000000000000000000000000000000000000000000000000 ≤ i → i ≤ 100000000000000000000000000000000000000000000000000 → -100000000000000000000000000000000000000000000000000 ≤ j → j ≤ 100000000000000000000000000000000000000000000000000 → Same H H' → SqT K H' p [.int i, .int j] → Q (.ref p) H'
def PM (a : Addr) (H : Hp) (n m B : Int) : L2.St → Hp → Prop := fun σ' H' => ∃ (x y : Int) (v : Option V), σ' = [some (.ref a), some (.int n), some (.int m), some (.int x), some (.int y), v] ∧ H = H' ∧ -B ≤ x ∧ x ≤ B ∧ -B ≤ y ∧ y ≤ B
theorem ok_Lrests (T : Txt K mg) : FnOk P w K mg base CX0 2 T.a_Lrests T.fd_Lrests ["_law_script", "_law_one", "_law_other"] (sp_Lrests K) := by
  refine T.F_Lrests.ok sc_Lrests (fun vs H Q E h => ?_) (fun cdv A outer s H vs Q E hr h => ?_)
  · obtain ⟨_, _, _, _, rfl, _⟩ := h; rfl
  · obtain ⟨a, ns, n, m, rfl, hS, hb, hn, hn', hm, hm', q⟩ := h
    have hu := hr.units
    refine ⟨_, (pss_cons (ps_set (i := 3) sc_Lrests.nd rfl (Or.inl rfl) (pe_op op_sub (pe_op op_mod (pe_call (ok_Lcell_at T) (hr.mono (by decide)) (by rfl) T.g_Lcell_at T.F_Lcell_at.kp T.b_Lcell_at .nil pass0 (pa_cons (pv 0) (pa_cons pe_int pa_nil))) (pe_powc (n := 10000000000000000000000000000000000000000) (by decide +kernel))) (pe_powc (n := 1000000000000000000000000000000000000000) (by decide +kernel))))
        (pss_cons (ps_set (i := 4) sc_Lrests.nd rfl (Or.inl rfl) (pe_op op_sub (pe_op op_mod (pe_call (ok_Lcell_at T) (hr.mono (by decide)) (by rfl) T.g_Lcell_at T.F_Lcell_at.kp T.b_Lcell_at .nil pass0 (pa_cons (pv 0) (pa_cons pe_int pa_nil))) (pe_powc (n := 10000000000000000000000000000000000000000) (by decide +kernel))) (pe_powc (n := 1000000000000000000000000000000000000000) (by decide +kernel))))
        (pss_cons (ps_if (pt_cmpR (kb_eq K (hu := hu)) (pe_op op_mod (pe_call (ok_Lcell_at T) (hr.mono (by decide)) (by rfl) T.g_Lcell_at T.F_Lcell_at.kp T.b_Lcell_at .nil pass0 (pa_cons (pv 0) (pa_cons pe_int pa_nil))) pe_int) pe_int (nomark _)) (pss_cons (ps_set (i := 3) sc_Lrests.nd rfl (Or.inl rfl) (pe_op op_sub (pe_op op_mod (pv 3) pe_int) pe_int))
        (pss_one (ps_set (i := 4) sc_Lrests.nd rfl (Or.inl rfl) (pe_op op_sub (pe_op op_mod (pv 4) pe_int) pe_int)))) (pss_one (ps_if (pt_cmpR (kb_eq K (hu := hu)) (pe_op op_mod (pe_op op_fdivW (pe_call (ok_Lcell_at T) (hr.mono (by decide)) (by rfl) T.g_Lcell_at T.F_Lcell_at.kp T.b_Lcell_at .nil pass0 (pa_cons (pv 0) (pa_cons pe_int pa_nil))) pe_int) pe_int) pe_int (nomark _)) (pss_cons (ps_set (i := 5) sc_Lrests.nd rfl (Or.inl rfl) (pe_op op_sub (pe_op op_mod (pv 4) pe_int) pe_int))
        (pss_one (ps_set (i := 4) sc_Lrests.nd rfl (Or.inl rfl) (pe_op op_sub (pe_op op_addA (pv 3) (pe_op op_mulX (pv 1) (pv 5))) (pe_op op_mulX (pv 2) (pe_op op_sub (pe_op op_mod (pe_op op_fdivW (pv 4) pe_int) pe_int) pe_int)))))) pss_nil)))
        (pss_one (ps_ret (pe_tup (pa_cons (pv 3) (pa_cons (pv 4) pa_nil)))))))), ?_⟩
    walk_at "go"
    rename_i c _ _ d _ _
    generalize hi : c % 10000000000000000000000000000000000000000 - 1000000000000000000000000000000000000000 = x
    generalize hj : d % 10000000000000000000000000000000000000000 - 1000000000000000000000000000000000000000 = y
    with_reducible refine k_cutI (PM a H n m 100000000000000000000000000000000000000000000000000) (fun N hN => ?_) ?_
    · walk_at "go"; walk_at "br"
      · walk_at "go"
        exact hN _ _ ⟨_, _, _, rfl, rfl, by omega, by omega, by omega, by omega⟩
      · walk_at "if"
        · have h1 := mul_bd2 (show -100000000000000000000000000000000000000000000 ≤ n by omega) hn' (show -1000 ≤ y % 1009 - 504 by omega) (show y % 1009 - 504 ≤ 1000 by omega)
          have h2 := mul_bd2 (show -100000000000000000000000000000000000000000000 ≤ m by omega) hm' (show -1000 ≤ y / 1009 % 997 - 498 by omega) (show y / 1009 % 997 - 498 ≤ 1000 by omega)
          walk_at "go"
          exact hN _ _ ⟨_, _, _, rfl, rfl, by omega, by omega, by omega, by omega⟩
        · walk_at "go"; exact hN _ _ ⟨_, _, _, rfl, rfl, by omega, by omega, by omega, by omega⟩
    rintro _ _ ⟨x, y, v, rfl, rfl, hx, hx', hy, hy'⟩
    walk_at "go"
    exact q _ _ _ _ hx hx' hy hy' (by assumption) (SqT.of (by assumption))
theorem k_Lrests {H : Hp} {Q : VK} {E : XK} {a : Addr} {ns : List Int} {n m : Int} (hb : ∀ z ∈ ns, Builtin.Int.intBits z ≤ 1048576) (hS : SqL K H a (ns.map V.int))
  (h1 : 1 ≤ n ∧ n ≤ 100000000000000000000000000000000000000000000 ∧ 1 ≤ m ∧ m ≤ 100000000000000000000000000000000000000000000)
    (q : ∀ (i j : Int) (p : Addr) (H' : Hp), -100000000000000000000000000000000000000000000000000 ≤ i → i ≤ 100000000000000000000000000000000000000000000000000 → -100000000000000000000000000000000000000000000000000 ≤ j → j ≤ 100000000000000000000000000000000000000000000000000 → Same H H' → SqT K H' p [.int i, .int j] → Q (.ref p) H') : sp_Lrests K [.ref a, .int n, .int m] H Q E := ⟨a, ns, n, m, rfl, hS, hb, h1.1, h1.2.1, h1.2.2.1, h1.2.2.2, q⟩
local macro_rules | `(tactic| walk_at "st") => `(tactic| ((with_reducible apply k_Lrests); (· assumption); (· walk_at "hp"); (· omega); intro i j p H' hi hi' hj hj' hs ht))

/-! ### sized -/
def sp_sized (K : PySem.W.Frag) : Sp := fun vs H Q _ => ∃ i, vs = [.int i] ∧ 1 ≤ i ∧ Q .non H
theorem ok_sized (T : Txt K mg) : FnOk P w K mg base CX0 1 T.a_sized T.fd_sized ["size"] (sp_sized K) := by
  refine T.F_sized.ok sc_sized (fun vs H Q E h => ?_) (fun cdv A outer s H vs Q E hr h => ?_)
  · obtain ⟨i, rfl, _⟩ := h; rfl
  · obtain ⟨i, rfl, h1, q⟩ := h
    refine ⟨_, (pss_one (ps_if (pt_cmpR op_lt (pv 0) pe_int (nomark _)) (pss_one ps_never) pss_nil)), ?_⟩
    walk_at "if"; walk_at "go"; exact q
theorem k_sized {H : Hp} {Q : VK} {E : XK} {i : Int} (h1 : 1 ≤ i) (q : Q .non H) : sp_sized K [.int i] H Q E := ⟨i, rfl, h1, q⟩
local macro_rules | `(tactic| walk_at "st") => `(tactic| ((with_reducible apply k_sized); (· omega)))

/-! ### equation -/
def sp_equation (K : PySem.W.Frag) : Sp := fun vs H Q _ => ∃ i j : Int, vs = [.int i, .int j] ∧ Sm 200 i ∧ Sm 200 j ∧
  ∀ (p : Addr) (H' : Hp) (u v : Int), Same H H' → SqT K H' p [.int u, .int v, .int (Int.gcd i j : Nat)] → u * i + v * j = (Int.gcd i j : Nat) → Sm 1010 u → Sm 1010 v → Q (.ref p) H'
structure EqSt (K : PySem.W.Frag) (H : Hp) (i j : Int) (m : Nat) (σ' : L2.St) (H' : Hp) (p1 p2 : Addr) (u1 v1 r1 u2 v2 r2 : Int) : Prop where
  st : ∃ t r k, σ' = [some (.int i), some (.int j), some (.ref p1), some (.ref p2), t, r, k]
  sm : Same H H'
  t1 : SqT K H' p1 [.int u1, .int v1, .int r1]
  t2 : SqT K H' p2 [.int u2, .int v2, .int r2]
  b1 : u1 * i + v1 * j = r1
  b2 : u2 * i + v2 * j = r2
  gc : Int.gcd r1 r2 = Int.gcd i j
  ms : m = r2.natAbs
  s1 : r1.natAbs ≤ 2 ^ 200
  s2 : r2.natAbs ≤ 2 ^ 200
  ph : (u1 = 1 ∧ v1 = 0 ∧ u2 = 0 ∧ v2 = 1 ∧ r1 = i ∧ r2 = j) ∨ Later (2 ^ 806) u1 v1 r1 u2 v2 r2
theorem EqSt.le {K : PySem.W.Frag} {H H' : Hp} {i j : Int} {m : Nat} {σ' : L2.St} {p1 p2 : Addr} {u1 v1 r1 u2 v2 r2 : Int} (h : EqSt K H i j m σ' H' p1 p2 u1 v1 r1 u2 v2 r2) : Sm 1010 u1 ∧ Sm 1010 v1 ∧ Sm 1010 u2 ∧ Sm 1010 v2 := by
  have e : (2 : Nat) ^ 806 < 2 ^ 1010 := Nat.pow_lt_pow_right (by decide) (by decide)
  have e0 : 1 < (2 : Nat) ^ 1010 := Nat.lt_of_lt_of_le (by decide : 1 < 2 ^ 1) (Nat.pow_le_pow_right (by decide) (by decide))
  rcases h.ph with ⟨rfl, rfl, rfl, rfl, _⟩ | hl
  · exact ⟨⟨e0⟩, ⟨Nat.lt_trans (by decide) e0⟩, ⟨Nat.lt_trans (by decide) e0⟩, ⟨e0⟩⟩
  · have := hl.le
    exact ⟨⟨Nat.lt_of_le_of_lt this.1 e⟩, ⟨Nat.lt_of_le_of_lt this.2.1 e⟩, ⟨Nat.lt_of_le_of_lt this.2.2.1 e⟩, ⟨Nat.lt_of_le_of_lt this.2.2.2 e⟩⟩
theorem ok_equation (T : Txt K mg) : FnOk P w K mg base CX0 1 T.a_equation T.fd_equation ["one", "other"] (sp_equation K) := by
  refine T.F_equation.ok sc_equation (fun vs H Q E h => ?_) (fun cdv A outer s H vs Q E hr h => ?_)
  · obtain ⟨_, _, rfl, _⟩ := h; rfl
  · obtain ⟨i, j, rfl, si, sj, q⟩ := h
    have hu := hr.units
    refine ⟨_, (pss_cons (ps_set (i := 2) sc_equation.nd rfl (Or.inr rfl) (pe_tup (pa_cons pe_int (pa_cons pe_int (pa_cons (pv 0) pa_nil)))))
        (pss_cons (ps_set (i := 3) sc_equation.nd rfl (Or.inr rfl) (pe_tup (pa_cons pe_int (pa_cons pe_int (pa_cons (pv 1) pa_nil)))))
        (pss_cons (ps_while PassesOwn.never (pt_cmpR (kb_ne K (hu := hu)) (pe_ix (kb_ix K) (pv 3) pe_int (fun _ _ => rfl)) pe_int (nomark _)) (pss_cons (ps_set (i := 4) sc_equation.nd rfl (Or.inr rfl) (pe_op op_fdivX (pe_ix (kb_ix K) (pv 2) pe_int (fun _ _ => rfl)) (pe_ix (kb_ix K) (pv 3) pe_int (fun _ _ => rfl))))
        (pss_cons (ps_setLc (i := 5) (own := [("k", 6)]) (g := gName 6) (tt := tYes) rfl sc_equation.nd rfl rfl (sw_true rfl rfl rfl (by decide +kernel)) (pi_range1 (by rfl) T.n_range (pa_cons pe_int pa_nil)) (blkOk_by (N := ["one", "other", "first", "second", "times", "rest", "k"]) (sc := defScope s_equation) (by decide +kernel)) (fun _ _ _ _ _ => pg_name (i := 6) sc_equation.nd rfl (Or.inl rfl)) (fun _ _ _ _ _ => pts_nil) (fun _ _ _ _ _ => (pe_op op_sub (pe_ix (kb_ix K) (pv 2) (pv 6) (fun _ _ => rfl)) (pe_op op_mulX (pv 4) (pe_ix (kb_ix K) (pv 3) (pv 6) (fun _ _ => rfl))))))
        (pss_cons (ps_set (i := 2) sc_equation.nd rfl (Or.inr rfl) (pv 3))
        (pss_one (ps_set (i := 3) sc_equation.nd rfl (Or.inr rfl) (pe_tup (pa_cons (pe_ix (kb_ix K) (pv 5) pe_int (fun _ _ => rfl)) (pa_cons (pe_ix (kb_ix K) (pv 5) pe_int (fun _ _ => rfl)) (pa_cons (pe_ix (kb_ix K) (pv 5) pe_int (fun _ _ => rfl)) pa_nil))))))))))
        (pss_cons (ps_if (pt_cmpR op_lt (pe_ix (kb_ix K) (pv 2) pe_int (fun _ _ => rfl)) pe_int (nomark _)) (pss_one (ps_ret (pe_tup (pa_cons (pe_un un_neg (pe_ix (kb_ix K) (pv 2) pe_int (fun _ _ => rfl))) (pa_cons (pe_un un_neg (pe_ix (kb_ix K) (pv 2) pe_int (fun _ _ => rfl))) (pa_cons (pe_un un_neg (pe_ix (kb_ix K) (pv 2) pe_int (fun _ _ => rfl))) pa_nil)))))) pss_nil)
        (pss_one (ps_ret (pv 2))))))), ?_⟩
    walk_at "go"
    apply k_seqW
    rename_i p1 H1 n1 s1 t1 p2 H2 n2 s2 t2
    refine k_while (fun m σ' H' => ∃ p1 p2 u1 v1 r1 u2 v2 r2, EqSt K H i j m σ' H' p1 p2 u1 v1 r1 u2 v2 r2) _ ⟨p1, p2, 1, 0, i, 0, 1, j, ⟨_, _, _, rfl⟩, s1.trans s2, SqT.of (s2 _ _ t1), SqT.of t2, by omega, by omega, rfl, rfl, Nat.le_of_lt si.h, Nat.le_of_lt sj.h, .inl ⟨rfl, rfl, rfl, rfl, rfl, rfl⟩⟩ ?_
    clear s1 t1 s2 t2 n1 n2 p1 p2
    rintro m _ H3 ⟨p1, p2, u1, v1, r1, u2, v2, r2, hst⟩
    obtain ⟨⟨t, r, k, rfl⟩, sm, t1, t2, b1, b2, gc, rfl, z1, z2, ph⟩ := id hst
    obtain ⟨c1, c2, c3, c4⟩ := hst.le
    walk_at "go"
    refine if_ndec (fun hbr => ?_) (fun hbr => ?_)
    · apply k_turn
      have zq := fdiv_abs_le (r1 := r1) hbr
      have zr := rest_lt (r1 := r1) hbr
      have sr2 : Sm 201 r2 := ⟨Nat.lt_of_le_of_lt z2 (Nat.pow_lt_pow_right (by decide) (by decide))⟩
      have sq : Sm 300 (r1.fdiv r2) := ⟨Nat.lt_of_le_of_lt (Nat.le_trans zq (Nat.add_le_add z1 z2)) (by decide)⟩
      walk_at "go"
      refine k_I (sm_divx hbr sr2 (by decide) (by decide)) ?_
      walk_at "go"
      refine k_lcr [.int (u1 - r1.fdiv r2 * u2), .int (v1 - r1.fdiv r2 * v2), .int (r1 - r1.fdiv r2 * r2)] (by rfl) (by decide) (fun i v H4 R hv s4 hR => ?_) (fun D H4 hD s4 h4 => ?_)
      · match i, hv with
        | 0, hv => cases hv; walk_at "go"; exact hR _ (Same.refl _)
        | 1, hv => cases hv; walk_at "go"; exact hR _ (Same.refl _)
        | 2, hv => cases hv; walk_at "go"; exact hR _ (Same.refl _)
      · walk_at "go"
        rename_i p3 H5 n5 s5 t5
        refine ⟨_, ?_, p2, p3, u2, v2, r2, _, _, _, ⟨_, _, _, rfl⟩, (sm.trans s4).trans s5, same_t (s4.trans s5) t2, SqT.of t5, b2, bez_step b1 b2, (gcd_rest r1 r2 _).trans gc, rfl, z2, by omega, ?_⟩
        · exact zr
        · right
          rcases ph with ⟨rfl, rfl, rfl, rfl, rfl, rfl⟩ | hl
          · exact Later.first (n := 200) z1 z2 hbr
          · exact hl.step hbr
    · subst hbr
      rw [Int.gcd_zero_right] at gc
      walk_at "go"
      with_reducible apply k_seqI
      walk_at "go"
      refine if_dec (fun hneg => ?_) (fun hneg => ?_)
      · walk_at "go"
        rename_i p3 H5 n5 s5 t5
        refine q p3 H5 _ _ (sm.trans s5) (SqT.of (by rw [t5, ← gc, show ((r1.natAbs : Nat) : Int) = -r1 by omega])) ?_ ⟨by rw [Int.natAbs_neg]; exact c1.h⟩ ⟨by rw [Int.natAbs_neg]; exact c2.h⟩
        rw [← gc, show ((r1.natAbs : Nat) : Int) = -r1 by omega, ← b1, Int.neg_mul, Int.neg_mul]; omega
      · walk_at "go"
        refine q p1 H3 _ _ sm (by rw [← gc, show ((r1.natAbs : Nat) : Int) = r1 by omega]; exact t1) ?_ c1 c2
        rw [← gc, show ((r1.natAbs : Nat) : Int) = r1 by omega]; exact b1
theorem k_equation {H : Hp} {Q : VK} {E : XK} {i j : Int} (si : Sm 200 i) (sj : Sm 200 j) (q : ∀ (p : Addr) (H' : Hp) (u v : Int), Same H H' → SqT K H' p [.int u, .int v, .int (Int.gcd i j : Nat)] → u * i + v * j = (Int.gcd i j : Nat) → Sm 1010 u → Sm 1010 v → Q (.ref p) H') : sp_equation K [.int i, .int j] H Q E := ⟨i, j, rfl, si, sj, q⟩
local macro_rules | `(tactic| walk_at "st") => `(tactic| ((with_reducible apply k_equation); (· walk_at "sm"); (· walk_at "sm"); intro p H' u v hs ht hb su sv))

/-! ### divisor -/
def sp_divisor (K : PySem.W.Frag) : Sp := fun vs H Q _ => ∃ i j : Int, vs = [.int i, .int j] ∧ Q (.int (Int.gcd i j : Nat)) H
theorem ok_divisor (T : Txt K mg) : FnOk P w K mg base CX0 1 T.a_divisor T.fd_divisor ["one", "other"] (sp_divisor K) := by
  refine T.F_divisor.ok sc_divisor (fun vs H Q E h => ?_) (fun cdv A outer s H vs Q E hr h => ?_)
  · obtain ⟨_, _, rfl, _⟩ := h; rfl
  · obtain ⟨i, j, rfl, q⟩ := h
    have hu := hr.units
    refine ⟨_, (pss_cons (ps_set (i := 0) sc_divisor.nd rfl (Or.inl rfl) (pe_callB cb_abs (by rfl) T.n_abs (by decide +kernel) (pa_cons (pv 0) pa_nil)))
        (pss_cons (ps_set (i := 1) sc_divisor.nd rfl (Or.inl rfl) (pe_callB cb_abs (by rfl) T.n_abs (by decide +kernel) (pa_cons (pv 1) pa_nil)))
        (pss_cons (ps_while PassesOwn.never (pt_cmpR (kb_ne K (hu := hu)) (pv 1) pe_int (nomark _)) (pss_one (ps_par rfl sc_divisor.nd (i := 0) (j := 1) rfl rfl (by decide) rfl rfl (pa_cons (pv 1) (pa_cons (pe_op op_mod (pv 0) (pv 1)) pa_nil)) (by rfl))))
        (pss_one (ps_ret (pv 0)))))), ?_⟩
    walk_at "go"
    apply k_seqW
    refine k_while (fun m σ' H' => ∃ x y : Int, σ' = [some (.int x), some (.int y)] ∧ H = H' ∧ 0 ≤ x ∧ 0 ≤ y ∧ m = y.toNat ∧ Int.gcd x y = Int.gcd i j) _ ⟨_, _, rfl, rfl, abs_nn _, abs_nn _, rfl, gcd_abs i j⟩ ?_
    rintro m _ _ ⟨x, y, rfl, rfl, hx, hy, rfl, hg⟩
    walk_at "go"
    refine if_ndec (fun hbr => ?_) (fun hbr => ?_)
    · apply k_turn
      walk_at "go"
      have h1 := Int.emod_nonneg x hbr
      have h2 := Int.emod_lt_of_pos x (show 0 < y by omega)
      exact ⟨_, by omega, _, _, rfl, rfl, hy, h1, rfl, by rw [gcd_mod]; exact hg⟩
    · walk_at "go"
      rw [← hg, hbr, gcd_zero x hx] at q
      exact q
theorem k_divisor {H : Hp} {Q : VK} {E : XK} {i j : Int} (q : Q (.int (Int.gcd i j : Nat)) H) : sp_divisor K [.int i, .int j] H Q E := ⟨i, j, rfl, q⟩
local macro_rules | `(tactic| walk_at "st") => `(tactic| (with_reducible apply k_divisor))

/-! ### common -/
def sp_common (K : PySem.W.Frag) : Sp := fun vs H Q _ => ∃ i j : Int, vs = [.int i, .int j] ∧ 1 ≤ i ∧ 1 ≤ j ∧ Sm 300 i ∧ Sm 300 j ∧ Q (.int (lcmI i j)) H
theorem ok_common (T : Txt K mg) : FnOk P w K mg base CX0 2 T.a_common T.fd_common ["one", "other"] (sp_common K) := by
  refine T.F_common.ok sc_common (fun vs H Q E h => ?_) (fun cdv A outer s H vs Q E hr h => ?_)
  · obtain ⟨_, _, rfl, _⟩ := h; rfl
  · obtain ⟨i, j, rfl, h1, h2, s1, s2, q⟩ := h
    have g1 := gcd_pos (b := j) h1
    have g2 := gcd_le (b := j) h1
    have sg : Sm 300 ((Int.gcd i j : Nat) : Int) := ⟨Nat.lt_of_le_of_lt (by omega) s1.h⟩
    have sq : Sm 300 (i / ((Int.gcd i j : Nat) : Int)) := ⟨Nat.lt_of_le_of_lt (by
      have := Int.ediv_le_self ((Int.gcd i j : Nat) : Int) (show 0 ≤ i by omega)
      have := Int.ediv_nonneg (show 0 ≤ i by omega) (show (0 : Int) ≤ ((Int.gcd i j : Nat) : Int) by omega)
      omega) s1.h⟩
    refine ⟨_, (pss_cons (ps_expr (pe_call (ok_sized T) (hr.mono (by decide)) (by rfl) T.g_sized T.F_sized.kp T.b_sized .nil pass0 (pa_cons (pv 0) pa_nil)))
        (pss_cons (ps_expr (pe_call (ok_sized T) (hr.mono (by decide)) (by rfl) T.g_sized T.F_sized.kp T.b_sized .nil pass0 (pa_cons (pv 1) pa_nil)))
        (pss_one (ps_ret (pe_op op_mulX (pe_op op_fdivW (pv 0) (pe_call (ok_divisor T) (hr.mono (by decide)) (by rfl) T.g_divisor T.F_divisor.kp T.b_divisor .nil pass0 (pa_cons (pv 0) (pa_cons (pv 1) pa_nil)))) (pv 1)))))), ?_⟩
    walk_at "go"
    refine k_I (sm_div (by omega) sg (by decide) (by decide)) ?_
    walk_at "go"
    exact q
theorem k_common {H : Hp} {Q : VK} {E : XK} {i j : Int} (h1 : 1 ≤ i) (h2 : 1 ≤ j) (s1 : Sm 300 i) (s2 : Sm 300 j) (q : Q (.int (lcmI i j)) H) : sp_common K [.int i, .int j] H Q E := ⟨i, j, rfl, h1, h2, s1, s2, q⟩
theorem sm300 {i : Int} (h : Sm 200 i) : Sm 300 i := sm_mono h (by decide)
local macro_rules | `(tactic| walk_at "st") => `(tactic| ((with_reducible apply k_common); (· omega); (· omega); (· first | assumption | exact sm300 (sm41 (by omega) (by omega))); (· first | assumption | exact sm300 (sm41 (by omega) (by omega)))))

/-! ### met -/
def sp_met (K : PySem.W.Frag) : Sp := fun vs H Q _ => ∃ r n s m : Int, vs = [.int r, .int n, .int s, .int m] ∧ 1 ≤ n ∧ 1 ≤ m ∧ n ≤ 1000000000000000000000000000000000000000000000000000000000000 ∧ m ≤ 1000000000000000000000000000000000000000000000000000000000000 ∧
  Sm 300 r ∧ Sm 300 s ∧ ((s - r) % (Int.gcd n m : Nat) ≠ 0 → ∀ H', Same H H' → Q .non H') ∧
  ((s - r) % (Int.gcd n m : Nat) = 0 → ∀ (p : Addr) (H' : Hp) (x : Int), Same H H' → SqT K H' p [.int x, .int (lcmI n m)] → 0 ≤ x → x < lcmI n m → n ∣ x - r → m ∣ x - s → Q (.ref p) H')
theorem ok_met (T : Txt K mg) : FnOk P w K mg base CX0 3 T.a_met T.fd_met ["rest", "size", "other_rest", "other_size"] (sp_met K) := by
  refine T.F_met.ok sc_met (fun vs H Q E h => ?_) (fun cdv A outer s H vs Q E hr h => ?_)
  · obtain ⟨_, _, _, _, rfl, _⟩ := h; rfl
  · obtain ⟨r, n, s, m, rfl, hn, hm, hn', hm', sr, ss, q1, q2⟩ := h
    have hu := hr.units
    have g1 := gcd_pos (b := m) hn
    have g2 := gcd_le (b := m) hn
    have sn : Sm 200 n := sm41 (by omega) (by omega)
    have l1 := lcm_pos hn hm
    refine ⟨_, (pss_cons (ps_expr (pe_call (ok_sized T) (hr.mono (by decide)) (by rfl) T.g_sized T.F_sized.kp T.b_sized .nil pass0 (pa_cons (pv 1) pa_nil)))
        (pss_cons (ps_expr (pe_call (ok_sized T) (hr.mono (by decide)) (by rfl) T.g_sized T.F_sized.kp T.b_sized .nil pass0 (pa_cons (pv 3) pa_nil)))
        (pss_cons (ps_asg (pe_call (ok_equation T) (hr.mono (by decide)) (by rfl) T.g_equation T.F_equation.kp T.b_equation .nil pass0 (pa_cons (pv 1) (pa_cons (pv 3) pa_nil))) (pg_tup rfl (pgs_cons (pg_name (i := 4) sc_met.nd rfl (Or.inl rfl)) (pgs_cons (pg_name (i := 5) sc_met.nd rfl (Or.inl rfl)) (pgs_cons (pg_name (i := 6) sc_met.nd rfl (Or.inl rfl)) pgs_nil)))))
        (pss_cons (ps_set (i := 7) sc_met.nd rfl (Or.inl rfl) (pe_op op_sub (pv 2) (pv 0)))
        (pss_cons (ps_if (pt_cmpR (kb_ne K (hu := hu)) (pe_op op_mod (pv 7) (pv 6)) pe_int (nomark _)) (pss_one (ps_ret pe_non)) pss_nil)
        (pss_cons (ps_set (i := 8) sc_met.nd rfl (Or.inl rfl) (pe_call (ok_common T) (hr.mono (by decide)) (by rfl) T.g_common T.F_common.kp T.b_common .nil pass0 (pa_cons (pv 1) (pa_cons (pv 3) pa_nil))))
        (pss_one (ps_ret (pe_tup (pa_cons (pe_op op_mod (pe_op op_addA (pv 0) (pe_op op_mulX (pe_op op_mulX (pv 1) (pv 4)) (pe_op op_fdivW (pv 7) (pv 6)))) (pv 8)) (pa_cons (pv 8) pa_nil))))))))))), ?_⟩
    walk_at "go"
    walk_at "if"
    · rename_i hbr
      walk_at "go"; exact q1 hbr _ (by assumption)
    · rename_i p H' u v hs ht hb su sv hbr
      have hsm : Sm 302 ((s - r) / ((Int.gcd n m : Nat) : Int)) := by
        have e : (2 : Nat) ^ 302 = 4 * 2 ^ 300 := by rw [show (302 : Nat) = 2 + 300 from rfl, Nat.pow_add]
        have h1 := sr.h
        have h2 := ss.h
        generalize (2 : Nat) ^ 300 = X at *
        refine ⟨?_⟩
        rw [e]
        have := Int.natAbs_ediv_le_natAbs (s - r) ((Int.gcd n m : Nat) : Int)
        omega
      walk_at "go"
      have hL := lcm_pos hn hm
      have hmet := met_ok hn hm hb hbr
      exact q2 hbr _ _ _ (by rename_i p3 H3 h3 s3 t3; exact hs.trans s3) (SqT.of (by assumption)) (Int.emod_nonneg _ (by omega)) (Int.emod_lt_of_pos _ (by omega)) hmet.1 hmet.2
theorem k_met {H : Hp} {Q : VK} {E : XK} {r n s m : Int} (hn : 1 ≤ n) (hm : 1 ≤ m) (hn' : n ≤ 1000000000000000000000000000000000000000000000000000000000000) (hm' : m ≤ 1000000000000000000000000000000000000000000000000000000000000)
    (sr : Sm 300 r) (ss : Sm 300 s) (q1 : (s - r) % (Int.gcd n m : Nat) ≠ 0 → ∀ H', Same H H' → Q .non H') (q2 : (s - r) % (Int.gcd n m : Nat) = 0 → ∀ (p : Addr) (H' : Hp) (x : Int), Same H H' → SqT K H' p [.int x, .int (lcmI n m)] → 0 ≤ x → x < lcmI n m → n ∣ x - r → m ∣ x - s → Q (.ref p) H') :
    sp_met K [.int r, .int n, .int s, .int m] H Q E := ⟨r, n, s, m, rfl, hn, hm, hn', hm', sr, ss, q1, q2⟩

/-! ### _law_whole -/
def sp_Lwhole (K : PySem.W.Frag) : Sp := fun vs H Q _ => ∃ i, vs = [.int i] ∧ Q (.bl true) H
theorem ok_Lwhole (T : Txt K mg) : FnOk P w K mg base CX0 1 T.a_Lwhole T.fd_Lwhole ["_law_found"] (sp_Lwhole K) := by
  refine T.F_Lwhole.ok sc_Lwhole (fun vs H Q E h => ?_) (fun cdv A outer s H vs Q E hr h => ?_)
  · obtain ⟨_, rfl, _⟩ := h; rfl
  · obtain ⟨i, rfl, q⟩ := h
    refine ⟨_, (pss_one (ps_ret (pe_and (pe_callB (kb_isi K) (by rfl) T.n_isinstance (by decide +kernel) (pa_cons (pv 0) (pa_cons (pe_bltn (v := .ty "int") (by rfl) T.n_int (by decide +kernel) rfl) pa_nil))) (pe_one (pe_not (pe_callB (kb_isi K) (by rfl) T.n_isinstance (by decide +kernel) (pa_cons (pv 0) (pa_cons (pe_bltn (v := .ty "bool") (by rfl) T.n_bool (by decide +kernel) rfl) pa_nil)))))))), ?_⟩
    walk_at "go"
    exact q
theorem k_whole {H : Hp} {Q : VK} {E : XK} {i : Int} (q : Q (.bl true) H) : sp_Lwhole K [.int i] H Q E := ⟨i, rfl, q⟩
local macro_rules | `(tactic| walk_at "st") => `(tactic| (with_reducible apply k_whole))

/-! ### law -/
def sp_law (K : PySem.W.Frag) : Sp := fun vs H Q _ => ∃ (a : Addr) (ns : List Int), vs = [.ref a] ∧ SqL K H a (ns.map V.int) ∧ ns.length ≤ 63 ∧ (∀ z ∈ ns, Builtin.Int.intBits z ≤ 1048576) ∧ ∀ H', Q (.bl true) H'
set_option pp.maxSteps 400 in
theorem ok_law (T : Txt K mg) : FnOk P w K mg base CX0 4 T.a_law T.fd_law ["_law_script"] (sp_law K) := by
  refine T.F_law.ok sc_law (fun vs H Q E h => ?_) (fun cdv A outer s H vs Q E hr h => ?_)
  · obtain ⟨_, _, rfl, _⟩ := h; rfl
  · obtain ⟨a, ns, rfl, hS, hl, hb, q⟩ := h
    have hu := hr.units
    refine ⟨_, (pss_cons (ps_asg (pe_call (ok_Lsizes T) (hr.mono (by decide)) (by rfl) T.g_Lsizes T.F_Lsizes.kp T.b_Lsizes .nil pass0 (pa_cons (pv 0) pa_nil)) (pg_tup rfl (pgs_cons (pg_name (i := 1) sc_law.nd rfl (Or.inl rfl)) (pgs_cons (pg_name (i := 2) sc_law.nd rfl (Or.inl rfl)) pgs_nil))))
        (pss_cons (ps_asg (pe_call (ok_Lrests T) (hr.mono (by decide)) (by rfl) T.g_Lrests T.F_Lrests.kp T.b_Lrests .nil pass0 (pa_cons (pv 0) (pa_cons (pv 1) (pa_cons (pv 2) pa_nil)))) (pg_tup rfl (pgs_cons (pg_name (i := 3) sc_law.nd rfl (Or.inl rfl)) (pgs_cons (pg_name (i := 4) sc_law.nd rfl (Or.inl rfl)) pgs_nil))))
        (pss_cons (ps_set (i := 5) sc_law.nd rfl (Or.inl rfl) (pe_call (ok_met T) (hr.mono (by decide)) (by rfl) T.g_met T.F_met.kp T.b_met .nil pass0 (pa_cons (pv 3) (pa_cons (pv 1) (pa_cons (pv 4) (pa_cons (pv 2) pa_nil))))))
        (pss_cons (ps_if (pt_cmpR (kb_ne K (hu := hu)) (pe_op op_mod (pe_op op_sub (pv 3) (pv 4)) (pe_call (ok_divisor T) (hr.mono (by decide)) (by rfl) T.g_divisor T.F_divisor.kp T.b_divisor .nil pass0 (pa_cons (pv 1) (pa_cons (pv 2) pa_nil)))) pe_int (nomark _)) (pss_one (ps_ret (pe_cmpR kb_isN (pv 5) pe_non (nomark _)))) pss_nil)
        (pss_cons (ps_if (PW.pt (pw_or (pt_not (pt_val (pe_callB (kb_isi K) (by rfl) T.n_isinstance (by decide +kernel) (pa_cons (pv 5) (pa_cons (pe_bltn (v := .ty "tuple") (by rfl) T.n_tuple (by decide +kernel) rfl) pa_nil))))) (pw_or1 (pt_cmpR (kb_ne K (hu := hu)) (pe_callB (kb_len K) (by rfl) T.n_len (by decide +kernel) (pa_cons (pv 5) pa_nil)) pe_int (nomark _))))) (pss_one (ps_ret pe_bl)) pss_nil)
        (pss_cons (ps_if (PW.pt (pw_or (pt_not (pt_val (pe_call (ok_Lwhole T) (hr.mono (by decide)) (by rfl) T.g_Lwhole T.F_Lwhole.kp T.b_Lwhole .nil pass0 (pa_cons (pe_ix (kb_ix K) (pv 5) pe_int (fun _ _ => rfl)) pa_nil)))) (pw_or1 (pt_not (pt_val (pe_call (ok_Lwhole T) (hr.mono (by decide)) (by rfl) T.g_Lwhole T.F_Lwhole.kp T.b_Lwhole .nil pass0 (pa_cons (pe_ix (kb_ix K) (pv 5) pe_int (fun _ _ => rfl)) pa_nil))))))) (pss_one (ps_ret pe_bl)) pss_nil)
        (pss_cons (ps_if (PW.pt (pw_or (pt_cmpR (kb_ne K (hu := hu)) (pe_ix (kb_ix K) (pv 5) pe_int (fun _ _ => rfl)) (pe_call (ok_common T) (hr.mono (by decide)) (by rfl) T.g_common T.F_common.kp T.b_common .nil pass0 (pa_cons (pv 1) (pa_cons (pv 2) pa_nil))) (nomark _)) (pw_or (pt_cmpR op_lt (pe_ix (kb_ix K) (pv 5) pe_int (fun _ _ => rfl)) pe_int (nomark _)) (pw_or1 (pt_cmpR op_ge (pe_ix (kb_ix K) (pv 5) pe_int (fun _ _ => rfl)) (pe_ix (kb_ix K) (pv 5) pe_int (fun _ _ => rfl)) (nomark _)))))) (pss_one (ps_ret pe_bl)) pss_nil)
        (pss_cons (ps_set (i := 6) sc_law.nd rfl (Or.inl rfl) (pe_op op_sub (pe_op op_mod (pe_call (ok_Lcell_at T) (hr.mono (by decide)) (by rfl) T.g_Lcell_at T.F_Lcell_at.kp T.b_Lcell_at .nil pass0 (pa_cons (pv 0) (pa_cons pe_int pa_nil))) (pe_powc (n := 10000000000000000000000000000000000000000) (by decide +kernel))) (pe_powc (n := 1000000000000000000000000000000000000000) (by decide +kernel))))
        (pss_cons (ps_if (pt_cmpR (kb_eq K (hu := hu)) (pe_op op_mod (pe_op op_fdivW (pe_call (ok_Lcell_at T) (hr.mono (by decide)) (by rfl) T.g_Lcell_at T.F_Lcell_at.kp T.b_Lcell_at .nil pass0 (pa_cons (pv 0) (pa_cons pe_int pa_nil))) pe_int) pe_int) pe_int (nomark _)) (pss_one (ps_set (i := 6) sc_law.nd rfl (Or.inl rfl) (pe_op op_addA (pe_ix (kb_ix K) (pv 5) pe_int (fun _ _ => rfl)) (pe_op op_mulX (pe_ix (kb_ix K) (pv 5) pe_int (fun _ _ => rfl)) (pe_op op_sub (pe_op op_mod (pv 6) pe_int) pe_int))))) pss_nil)
        (pss_cons (ps_set (i := 7) sc_law.nd rfl (Or.inl rfl) (pe_and (pe_cmpR (kb_eq K (hu := hu)) (pe_op op_mod (pe_op op_sub (pv 6) (pv 3)) (pv 1)) pe_int (nomark _)) (pe_one (pe_cmpR (kb_eq K (hu := hu)) (pe_op op_mod (pe_op op_sub (pv 6) (pv 4)) (pv 2)) pe_int (nomark _)))))
        (pss_one (ps_ret (pe_cmpR (kb_eq K (hu := hu)) (pv 7) (pe_cmpR (kb_eq K (hu := hu)) (pe_op op_mod (pe_op op_sub (pv 6) (pe_ix (kb_ix K) (pv 5) pe_int (fun _ _ => rfl))) (pe_ix (kb_ix K) (pv 5) pe_int (fun _ _ => rfl))) pe_int (nomark _)) (nomark _)))))))))))))), ?_⟩
    walk_at "go"
    rename_i n m p H' hn hn' hm hm' hs ht r s p2 H2 h1 h2 h3 h4 hs2 ht2
    have g1 := gcd_pos (b := m) hn
    have hsym : (r - s) % (Int.gcd n m : Nat) = 0 ↔ (s - r) % (Int.gcd n m : Nat) = 0 := by
      constructor
      · intro e
        have := Int.dvd_neg.mpr (Int.dvd_of_emod_eq_zero e)
        rw [show -(r - s) = s - r by omega] at this
        exact Int.emod_eq_zero_of_dvd this
      · intro e
        have := Int.dvd_neg.mpr (Int.dvd_of_emod_eq_zero e)
        rw [show -(s - r) = r - s by omega] at this
        exact Int.emod_eq_zero_of_dvd this
    refine k_met hn hm (by omega) (by omega) (sm300 (sm41 (by omega) (by omega))) (sm300 (sm41 (by omega) (by omega))) (fun hne H3 s3 => ?_) (fun he p3 H3 x s3 t3 x0 x1 d1 d2 => ?_)
    · walk_at "run"
      exact q _
    · have l1 := lcm_pos hn hm
      have sl : Sm 400 (lcmI n m) := by
        have h3 := sm_mul (sm41 (i := n) (by omega) (by omega)) (sm41 (i := m) (by omega) (by omega))
        have l4 := lcm_le_mul hn hm
        exact ⟨Nat.lt_of_le_of_lt (by omega) h3.h⟩
      walk_at "all"
      all_goals first | exact fin_t (alikeA (alike_both hn hm d1 d2) (by assumption)) (q _) | exact fin_t (alikeB (alike_both hn hm d1 d2) (by assumption)) (q _)

end
theorem all_mk {l : PySem.W.OpenLaw} {w : World} {K : PySem.W.Frag} {h : Heap} {mg : Str → Option Value} {fa : Addr} (X : K.In h) (G : h.Ns mainGlobals mg) (hfa : mg "law" = some (.ref fa))
    {f_Lcell_at : Addr} {od_Lcell_at an_Lcell_at : Option Addr} {sl_Lcell_at : Array (Option Value)} {oc_Lcell_at kV_Lcell_at dc_Lcell_at pm_Lcell_at cd_Lcell_at ct_Lcell_at : Value}
    {f_Lsizes : Addr} {od_Lsizes an_Lsizes : Option Addr} {sl_Lsizes : Array (Option Value)} {oc_Lsizes kV_Lsizes dc_Lsizes pm_Lsizes cd_Lsizes ct_Lsizes : Value}
    {f_Lrests : Addr} {od_Lrests an_Lrests : Option Addr} {sl_Lrests : Array (Option Value)} {oc_Lrests kV_Lrests dc_Lrests pm_Lrests cd_Lrests ct_Lrests : Value}
    {f_sized : Addr} {od_sized an_sized : Option Addr} {sl_sized : Array (Option Value)} {oc_sized kV_sized dc_sized pm_sized cd_sized ct_sized : Value}
    {f_equation : Addr} {od_equation an_equation : Option Addr} {sl_equation : Array (Option Value)} {oc_equation kV_equation dc_equation pm_equation cd_equation ct_equation : Value}
    {f_divisor : Addr} {od_divisor an_divisor : Option Addr} {sl_divisor : Array (Option Value)} {oc_divisor kV_divisor dc_divisor pm_divisor cd_divisor ct_divisor : Value}
    {f_common : Addr} {od_common an_common : Option Addr} {sl_common : Array (Option Value)} {oc_common kV_common dc_common pm_common cd_common ct_common : Value}
    {f_met : Addr} {od_met an_met : Option Addr} {sl_met : Array (Option Value)} {oc_met kV_met dc_met pm_met cd_met ct_met : Value}
    {f_Lwhole : Addr} {od_Lwhole an_Lwhole : Option Addr} {sl_Lwhole : Array (Option Value)} {oc_Lwhole kV_Lwhole dc_Lwhole pm_Lwhole cd_Lwhole ct_Lwhole : Value}
    {f_law : Addr} {od_law an_law : Option Addr} {sl_law : Array (Option Value)} {oc_law kV_law dc_law pm_law cd_law ct_law : Value}
    (a_Lcell_at : PySem.W.nsIn K mainGlobals "_law_cell_at" = some (some (.ref f_Lcell_at)))
    (l_Lcell_at : K.lookup f_Lcell_at = some ⟨oc_Lcell_at, od_Lcell_at, .func (PySem.W.fnOf "_law_cell_at" "_law_cell_at" (defArgs s_Lcell_at) (defBody s_Lcell_at) (defScope s_Lcell_at) .none kV_Lcell_at dc_Lcell_at pm_Lcell_at an_Lcell_at cd_Lcell_at ct_Lcell_at), sl_Lcell_at⟩)
    (c_Lcell_at : PySem.W.codeIn K cd_Lcell_at "_law_cell_at" = true)
    (k_Lcell_at : PySem.W.keepIn K (.ref f_Lcell_at) = true)
    (a_Lsizes : PySem.W.nsIn K mainGlobals "_law_sizes" = some (some (.ref f_Lsizes)))
    (l_Lsizes : K.lookup f_Lsizes = some ⟨oc_Lsizes, od_Lsizes, .func (PySem.W.fnOf "_law_sizes" "_law_sizes" (defArgs s_Lsizes) (defBody s_Lsizes) (defScope s_Lsizes) .none kV_Lsizes dc_Lsizes pm_Lsizes an_Lsizes cd_Lsizes ct_Lsizes), sl_Lsizes⟩)
    (c_Lsizes : PySem.W.codeIn K cd_Lsizes "_law_sizes" = true)
    (k_Lsizes : PySem.W.keepIn K (.ref f_Lsizes) = true)
    (a_Lrests : PySem.W.nsIn K mainGlobals "_law_rests" = some (some (.ref f_Lrests)))
    (l_Lrests : K.lookup f_Lrests = some ⟨oc_Lrests, od_Lrests, .func (PySem.W.fnOf "_law_rests" "_law_rests" (defArgs s_Lrests) (defBody s_Lrests) (defScope s_Lrests) .none kV_Lrests dc_Lrests pm_Lrests an_Lrests cd_Lrests ct_Lrests), sl_Lrests⟩)
    (c_Lrests : PySem.W.codeIn K cd_Lrests "_law_rests" = true)
    (k_Lrests : PySem.W.keepIn K (.ref f_Lrests) = true)
    (a_sized : PySem.W.nsIn K mainGlobals "sized" = some (some (.ref f_sized)))
    (l_sized : K.lookup f_sized = some ⟨oc_sized, od_sized, .func (PySem.W.fnOf "sized" "sized" (defArgs s_sized) (defBody s_sized) (defScope s_sized) .none kV_sized dc_sized pm_sized an_sized cd_sized ct_sized), sl_sized⟩)
    (c_sized : PySem.W.codeIn K cd_sized "sized" = true)
    (k_sized : PySem.W.keepIn K (.ref f_sized) = true)
    (a_equation : PySem.W.nsIn K mainGlobals "equation" = some (some (.ref f_equation)))
    (l_equation : K.lookup f_equation = some ⟨oc_equation, od_equation, .func (PySem.W.fnOf "equation" "equation" (defArgs s_equation) (defBody s_equation) (defScope s_equation) .none kV_equation dc_equation pm_equation an_equation cd_equation ct_equation), sl_equation⟩)
    (c_equation : PySem.W.codeIn K cd_equation "equation" = true)
    (k_equation : PySem.W.keepIn K (.ref f_equation) = true)
    (a_divisor : PySem.W.nsIn K mainGlobals "divisor" = some (some (.ref f_divisor)))
    (l_divisor : K.lookup f_divisor = some ⟨oc_divisor, od_divisor, .func (PySem.W.fnOf "divisor" "divisor" (defArgs s_divisor) (defBody s_divisor) (defScope s_divisor) .none kV_divisor dc_divisor pm_divisor an_divisor cd_divisor ct_divisor), sl_divisor⟩)
    (c_divisor : PySem.W.codeIn K cd_divisor "divisor" = true)
    (k_divisor : PySem.W.keepIn K (.ref f_divisor) = true)
    (a_common : PySem.W.nsIn K mainGlobals "common" = some (some (.ref f_common)))
    (l_common : K.lookup f_common = some ⟨oc_common, od_common, .func (PySem.W.fnOf "common" "common" (defArgs s_common) (defBody s_common) (defScope s_common) .none kV_common dc_common pm_common an_common cd_common ct_common), sl_common⟩)
    (c_common : PySem.W.codeIn K cd_common "common" = true)
    (k_common : PySem.W.keepIn K (.ref f_common) = true)
    (a_met : PySem.W.nsIn K mainGlobals "met" = some (some (.ref f_met)))
    (l_met : K.lookup f_met = some ⟨oc_met, od_met, .func (PySem.W.fnOf "met" "met" (defArgs s_met) (defBody s_met) (defScope s_met) .none kV_met dc_met pm_met an_met cd_met ct_met), sl_met⟩)
    (c_met : PySem.W.codeIn K cd_met "met" = true)
    (k_met : PySem.W.keepIn K (.ref f_met) = true)
    (a_Lwhole : PySem.W.nsIn K mainGlobals "_law_whole" = some (some (.ref f_Lwhole)))
    (l_Lwhole : K.lookup f_Lwhole = some ⟨oc_Lwhole, od_Lwhole, .func (PySem.W.fnOf "_law_whole" "_law_whole" (defArgs s_Lwhole) (defBody s_Lwhole) (defScope s_Lwhole) .none kV_Lwhole dc_Lwhole pm_Lwhole an_Lwhole cd_Lwhole ct_Lwhole), sl_Lwhole⟩)
    (c_Lwhole : PySem.W.codeIn K cd_Lwhole "_law_whole" = true)
    (k_Lwhole : PySem.W.keepIn K (.ref f_Lwhole) = true)
    (a_law : PySem.W.nsIn K mainGlobals "law" = some (some (.ref f_law)))
    (l_law : K.lookup f_law = some ⟨oc_law, od_law, .func (PySem.W.fnOf "law" "law" (defArgs s_law) (defBody s_law) (defScope s_law) .none kV_law dc_law pm_law an_law cd_law ct_law), sl_law⟩)
    (c_law : PySem.W.codeIn K cd_law "law" = true)
    (k_law : PySem.W.keepIn K (.ref f_law) = true)
    (z_abs : PySem.W.nsIn K mainGlobals "abs" = some none)
    (z_bool : PySem.W.nsIn K mainGlobals "bool" = some none)
    (z_int : PySem.W.nsIn K mainGlobals "int" = some none)
    (z_isinstance : PySem.W.nsIn K mainGlobals "isinstance" = some none)
    (z_len : PySem.W.nsIn K mainGlobals "len" = some none)
    (z_range : PySem.W.nsIn K mainGlobals "range" = some none)
    (z_tuple : PySem.W.nsIn K mainGlobals "tuple" = some none) :
    ∃ fd : FuncData, (∀ (s : Shared) (v : Value), BindsTo s fd ⟨[v], []⟩ [("_law_script", v)]) ∧ ∀ base : Heap, K.In base → base.Ns mainGlobals mg → FnOk l.prog w K mg base CX0 4 fa fd ["_law_script"] (sp_law K) := by
  have e := hfa.symm.trans (PySem.W.mg_of X G a_law)
  cases e
  have F_Lcell_at := fun_mk (st := s_Lcell_at) l_Lcell_at c_Lcell_at k_Lcell_at
  have b_Lcell_at := F_Lcell_at.binds (ps := ["_law_script", "_law_k"]) fun _ _ _ _ _ _ us hl => match us, hl with | [_, _], _ => rfl
  have F_Lsizes := fun_mk (st := s_Lsizes) l_Lsizes c_Lsizes k_Lsizes
  have b_Lsizes := F_Lsizes.binds (ps := ["_law_script"]) fun _ _ _ _ _ _ us hl => match us, hl with | [_], _ => rfl
  have F_Lrests := fun_mk (st := s_Lrests) l_Lrests c_Lrests k_Lrests
  have b_Lrests := F_Lrests.binds (ps := ["_law_script", "_law_one", "_law_other"]) fun _ _ _ _ _ _ us hl => match us, hl with | [_, _, _], _ => rfl
  have F_sized := fun_mk (st := s_sized) l_sized c_sized k_sized
  have b_sized := F_sized.binds (ps := ["size"]) fun _ _ _ _ _ _ us hl => match us, hl with | [_], _ => rfl
  have F_equation := fun_mk (st := s_equation) l_equation c_equation k_equation
  have b_equation := F_equation.binds (ps := ["one", "other"]) fun _ _ _ _ _ _ us hl => match us, hl with | [_, _], _ => rfl
  have F_divisor := fun_mk (st := s_divisor) l_divisor c_divisor k_divisor
  have b_divisor := F_divisor.binds (ps := ["one", "other"]) fun _ _ _ _ _ _ us hl => match us, hl with | [_, _], _ => rfl
  have F_common := fun_mk (st := s_common) l_common c_common k_common
  have b_common := F_common.binds (ps := ["one", "other"]) fun _ _ _ _ _ _ us hl => match us, hl with | [_, _], _ => rfl
  have F_met := fun_mk (st := s_met) l_met c_met k_met
  have b_met := F_met.binds (ps := ["rest", "size", "other_rest", "other_size"]) fun _ _ _ _ _ _ us hl => match us, hl with | [_, _, _, _], _ => rfl
  have F_Lwhole := fun_mk (st := s_Lwhole) l_Lwhole c_Lwhole k_Lwhole
  have b_Lwhole := F_Lwhole.binds (ps := ["_law_found"]) fun _ _ _ _ _ _ us hl => match us, hl with | [_], _ => rfl
  have F_law := fun_mk (st := s_law) l_law c_law k_law
  have b_law := F_law.binds (ps := ["_law_script"]) fun _ _ _ _ _ _ us hl => match us, hl with | [_], _ => rfl
  exact ⟨_, fun s v => .of_eq rfl, fun base _ _ => ok_law (⟨_, _, F_Lcell_at, (PySem.W.mg_of X G a_Lcell_at), b_Lcell_at, _, _, F_Lsizes, (PySem.W.mg_of X G a_Lsizes), b_Lsizes, _, _, F_Lrests, (PySem.W.mg_of X G a_Lrests), b_Lrests, _, _, F_sized, (PySem.W.mg_of X G a_sized), b_sized, _, _, F_equation, (PySem.W.mg_of X G a_equation), b_equation, _, _, F_divisor, (PySem.W.mg_of X G a_divisor), b_divisor, _, _, F_common, (PySem.W.mg_of X G a_common), b_common, _, _, F_met, (PySem.W.mg_of X G a_met), b_met, _, _, F_Lwhole, (PySem.W.mg_of X G a_Lwhole), b_Lwhole, _, _, F_law, (PySem.W.mg_of X G a_law), b_law, (PySem.W.mg_none_of X G z_abs), (PySem.W.mg_none_of X G z_bool), (PySem.W.mg_none_of X G z_int), (PySem.W.mg_none_of X G z_isinstance), (PySem.W.mg_none_of X G z_len), (PySem.W.mg_none_of X G z_range), (PySem.W.mg_none_of X G z_tuple)⟩ : Txt K mg)⟩
end FW
open PySem PySem.W PyProof.Rows
set_option maxRecDepth 100000 in
set_option maxHeartbeats 0 in
theorem PySem.Challenge.cw_feastwheel_k03_two_remainders_met_holds : PySem.Challenge.rw_feastwheel_k03_two_remainders_met.Holds := by
  w_on; o_law; k_head; (case hw => w_witness2)
  k_fill
  refine L2.walk_ofB (l := PySem.Challenge.rw_feastwheel_k03_two_remainders_met) (n := 63) (k := 4) (x := "_law_script") (CX := fun _ => L2.CX0) (sp := fun w => FW.sp_law _) rfl (by decide) rfl ⟨rfl, by decide, by decide⟩ (fun w h Y => PySem.W.kIn_of Y) ?F (fun _ _ a ns hl hb _ hS => ⟨a, ns, rfl, hS, hl, hb, fun _ => rfl⟩) (fun _ _ _ _ _ h => h)
  case F =>
    intro w mg fa h KX G hmg
    refine' FW.all_mk KX G hmg ?a_Lcell_at ?l_Lcell_at ?c_Lcell_at ?k_Lcell_at ?a_Lsizes ?l_Lsizes ?c_Lsizes ?k_Lsizes ?a_Lrests ?l_Lrests ?c_Lrests ?k_Lrests ?a_sized ?l_sized ?c_sized ?k_sized ?a_equation ?l_equation ?c_equation ?k_equation ?a_divisor ?l_divisor ?c_divisor ?k_divisor ?a_common ?l_common ?c_common ?k_common ?a_met ?l_met ?c_met ?k_met ?a_Lwhole ?l_Lwhole ?c_Lwhole ?k_Lwhole ?a_law ?l_law ?c_law ?k_law ?z_abs ?z_bool ?z_int ?z_isinstance ?z_len ?z_range ?z_tuple
    (case a_Lcell_at => k_is)
    (case l_Lcell_at => k_is)
    (case c_Lcell_at => k_is)
    (case k_Lcell_at => k_is)
    (case a_Lsizes => k_is)
    (case l_Lsizes => k_is)
    (case c_Lsizes => k_is)
    (case k_Lsizes => k_is)
    (case a_Lrests => k_is)
    (case l_Lrests => k_is)
    (case c_Lrests => k_is)
    (case k_Lrests => k_is)
    (case a_sized => k_is)
    (case l_sized => k_is)
    (case c_sized => k_is)
    (case k_sized => k_is)
    (case a_equation => k_is)
    (case l_equation => k_is)
    (case c_equation => k_is)
    (case k_equation => k_is)
    (case a_divisor => k_is)
    (case l_divisor => k_is)
    (case c_divisor => k_is)
    (case k_divisor => k_is)
    (case a_common => k_is)
    (case l_common => k_is)
    (case c_common => k_is)
    (case k_common => k_is)
    (case a_met => k_is)
    (case l_met => k_is)
    (case c_met => k_is)
    (case k_met => k_is)
    (case a_Lwhole => k_is)
    (case l_Lwhole => k_is)
    (case c_Lwhole => k_is)
    (case k_Lwhole => k_is)
    (case a_law => k_is)
    (case l_law => k_is)
    (case c_law => k_is)
    (case k_law => k_is)
    (case z_abs => k_is)
    (case z_bool => k_is)
    (case z_int => k_is)
    (case z_isinstance => k_is)
    (case z_len => k_is)
    (case z_range => k_is)
    (case z_tuple => k_is)
