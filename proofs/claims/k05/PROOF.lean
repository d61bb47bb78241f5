import PyProof.Rows.All
import Wide.All
import OpenK.AllK
import Wide.FinOn
import HandS.ForMost
import HandS.Exc
import HandS.Wide
import HandS.WideBits
import HandS.IsInst
import HandS.Flow
import HandS.EndBits
import HandS.Conv
import HandS.ExcIs
import HandS.ExcField
import HandS.TryMany
import KE.KExcIs
import HandS.HotCalls
import HandS.Style
import HandS.ForExc
import PySem.Challenge.RW_feastwheel_k05_sizes_refused
set_option Elab.async false
set_option linter.all false
set_option maxRecDepth 100000
set_option maxHeartbeats 4000000
namespace FW
open PySem PySem.Spec PyProof.Rows L2
/-! ### heaps -/
theorem same_t {K : PySem.W.Frag} {H H' : Hp} {a : Addr} {xs : List V} (e : Same H H') (h : SqT K H a xs) : SqT K H' a xs := by
  rcases h with (h | ⟨o, h⟩) | h
  · exact .inl (.inl (e _ _ h))
  · exact .inl (.inr ⟨o, e _ _ h⟩)
  · exact .inr h
theorem same_l {K : PySem.W.Frag} {H H' : Hp} {a : Addr} {xs : List V} (e : Same H H') (h : SqL K H a xs) : SqL K H' a xs := e.seq h
theorem same_at {H H' : Hp} {a : Addr} {o : HO} (e : Same H H') (h : H a = some o) : H' a = some o := e _ _ h
theorem same_new {H : Hp} {p : Addr} {o : HO} (h : H p = none) : Same H (upd H p o) := fun b x e => by
  rw [upd_ne (ne_of_none e h)]
  exact e
theorem same_mut {H H' : Hp} {p : Addr} {o : HO} (e : Same H H') (h : H p = none) : Same H (upd H' p o) := fun a u ha => by
  rw [upd_ne (ne_of_none ha h)]
  exact e a u ha
section
variable {K : PySem.W.Frag} {σ : L2.St} {H H1 : Hp} {Q : VK} {D : Ends} {i : Nat} {v x y : V} {ta tb tc te : TE} {t u : TT} {tr : TA} {m n : Int} {a b : Int} {r r' : R2}
/-! ### steps: expressions -/
theorem k_var (h : σ[i]? = some (some v)) (q : Q v H) : tVar i σ H Q := ⟨v, h, q⟩
theorem k_c (q : Q v H) : tC v σ H Q := q
theorem k_op (h : ta σ H fun x H1 => tb σ H1 fun y H2 => r x y H2 Q) : tOp r ta tb σ H Q := h
theorem k_un {r : V → Hp → VK → Prop} (h : ta σ H fun x H1 => r x H1 Q) : tUn r ta σ H Q := h
theorem k_I0 {g : Int → Int → V} (q : Q (g a b) H) : rI0 g (.int a) (.int b) H Q := ⟨a, b, rfl, rfl, q⟩
theorem k_I {C : Int → Int → Prop} {g : Int → Int → V} (c : C a b) (q : Q (g a b) H) : rI C g (.int a) (.int b) H Q := ⟨a, b, rfl, rfl, c, q⟩
theorem k_U {g : Int → V} (q : Q (g a) H) : rU g (.int a) H Q := ⟨a, rfl, q⟩
theorem k_nil {Q : List V → Hp → Prop} (q : Q [] H) : tNil σ H Q := q
theorem k_cons {Q : List V → Hp → Prop} (h : ta σ H fun x H1 => tr σ H1 fun xs H2 => Q (x :: xs) H2) : tCons ta tr σ H Q := h
theorem k_cb {r : List V → Hp → VK → Prop} (h : tr σ H fun vs H1 => r vs H1 Q) : tCB r tr σ H Q := h
theorem k_call {sp : Sp} {E : XK} (h : tr σ H fun vs H1 => sp vs H1 Q E) : tCall sp [] E tr σ H Q := by
  show tr σ H fun vs H1 => sp (vs ++ []) H1 Q E
  simp only [List.append_nil]
  exact h
def NewT (xs : List V) (H : Hp) (Q : VK) : Prop := xs.length ≤ sizeLine ∧ ∀ p, H p = none → Q (.ref p) (upd H p (.tup xs))
def NewL (xs : List V) (H : Hp) (Q : VK) : Prop := xs.length ≤ sizeLine ∧ ∀ p, H p = none → Q (.ref p) (upd H p (.lst xs))
theorem k_tup (h : tr σ H fun xs H1 => NewT xs H1 Q) : tTup tr σ H Q := h
theorem k_lst (h : tr σ H fun xs H1 => NewL xs H1 Q) : tLst tr σ H Q := h
theorem k_newtup {xs : List V} (hl : xs.length ≤ 1000) (h : ∀ p H2, H p = none → Same H H2 → H2 p = some (.tup xs) → Q (.ref p) H2) : NewT xs H Q :=
  ⟨Nat.le_trans hl (by decide), fun p hp => h p _ hp (same_new hp) upd_same⟩
theorem k_newlst {xs : List V} (hl : xs.length ≤ 1000) (h : ∀ p H2, H p = none → Same H H2 → H2 p = some (.lst xs) → Q (.ref p) H2) : NewL xs H Q :=
  ⟨Nat.le_trans hl (by decide), fun p hp => h p _ hp (same_new hp) upd_same⟩
theorem k_ifx {Q : VK} (h : t σ H fun c H1 => if c = true then ta σ H1 Q else tb σ H1 Q) : tIf t ta tb σ H Q := h
theorem k_andV (h : ta σ H fun x H1 => ∃ c, x = .bl c ∧ if c = true then tb σ H1 Q else Q (.bl false) H1) : tAndV ta tb σ H Q := h
theorem k_orV (h : ta σ H fun x H1 => ∃ c, x = .bl c ∧ if c = true then Q (.bl true) H1 else tb σ H1 Q) : tOrV ta tb σ H Q := h
theorem k_notV (h : ta σ H fun x H1 => ∃ c, x = .bl c ∧ Q (.bl (!c)) H1) : tNotV ta σ H Q := h
theorem k_chain (h : ta σ H fun x H1 => tb σ H1 fun y H2 => r x y H2 fun z H3 => ∃ k, z = .bl k ∧ (if k = true then tc σ H3 fun w' H4 => r' y w' H4 Q else Q (.bl false) H3)) : tChain r r' ta tb tc σ H Q := h
theorem k_and2 {i j : Nat} {x y : Bool} (h1 : σ[i]? = some (some (.bl x))) (h2 : σ[j]? = some (some (.bl y))) (q : Q (.bl (x && y)) H) : tAndV (tVar i) (tVar j) σ H Q :=
  ⟨_, h1, x, rfl, by cases x with
    | true => rw [if_pos rfl]; exact ⟨_, h2, q⟩
    | false => rw [if_neg Bool.false_ne_true]; exact q⟩
theorem k_or2 {i j : Nat} {x y : Bool} (h1 : σ[i]? = some (some (.bl x))) (h2 : σ[j]? = some (some (.bl y))) (q : Q (.bl (x || y)) H) : tOrV (tVar i) (tVar j) σ H Q :=
  ⟨_, h1, x, rfl, by cases x with
    | true => rw [if_pos rfl]; exact q
    | false => rw [if_neg Bool.false_ne_true]; exact ⟨_, h2, q⟩⟩
theorem k_andn2 {i j : Nat} {x y : Bool} (h1 : σ[i]? = some (some (.bl x))) (h2 : σ[j]? = some (some (.bl y))) (q : Q (.bl (x && !y)) H) : tAndV (tVar i) (tNotV (tVar j)) σ H Q :=
  ⟨_, h1, x, rfl, by cases x with
    | true => rw [if_pos rfl]; exact ⟨_, h2, _, rfl, q⟩
    | false => rw [if_neg Bool.false_ne_true]; exact q⟩
/-- a truth value told -/
theorem k_bl {p : Bool → Prop} {c : Bool} (h : p c) : ∃ k, V.bl c = .bl k ∧ p k := ⟨c, rfl, h⟩
/-! ### steps: tests -/
theorem k_test {Q : Bool → Hp → Prop} (h : ta σ H fun x H' => ∃ k, x = .bl k ∧ Q k H') : tTest ta σ H Q := h
theorem k_B {Q : Bool → Hp → Prop} (h : ta σ H fun x H' => ∃ k, x = .bl k ∧ Q k H') : tB ta σ H Q := h
theorem k_and {Q : Bool → Hp → Prop} (h : t σ H fun c H1 => if c = true then u σ H1 Q else Q false H1) : tAnd t u σ H Q := h
theorem k_or {Q : Bool → Hp → Prop} (h : t σ H fun c H1 => if c = true then Q true H1 else u σ H1 Q) : tOr t u σ H Q := h
theorem k_not {Q : Bool → Hp → Prop} (h : t σ H fun c H1 => Q (!c) H1) : tNot t σ H Q := h
/-! ### branches -/
theorem if_dec {p A B : Prop} [Decidable p] (h1 : p → A) (h2 : ¬ p → B) : if decide p = true then A else B := by
  by_cases h : p
  · rw [if_pos (decide_eq_true h)]; exact h1 h
  · rw [if_neg (by rw [decide_eq_false h]; decide)]; exact h2 h
theorem if_ndec {p A B : Prop} [Decidable p] (h1 : ¬ p → A) (h2 : p → B) : if (!decide p) = true then A else B := by
  by_cases h : p
  · rw [if_neg (by rw [decide_eq_true h]; decide)]; exact h2 h
  · rw [if_pos (by rw [decide_eq_false h]; rfl)]; exact h1 h
theorem if_b {c : Bool} {A B : Prop} (h1 : c = true → A) (h2 : c = false → B) : if c = true then A else B := by
  cases c with
  | true => rw [if_pos rfl]; exact h1 rfl
  | false => rw [if_neg Bool.false_ne_true]; exact h2 rfl
theorem if_t {A B : Prop} (h : A) : if true = true then A else B := iteT h
theorem if_f {A B : Prop} (h : B) : if false = true then A else B := iteF h
theorem if_nt {A B : Prop} (h : A) : if (!false) = true then A else B := iteT h
theorem if_nf {A B : Prop} (h : B) : if (!true) = true then A else B := iteF h
theorem fin_t {c : Bool} (hc : c = true) (q : Q (.bl true) H) : Q (.bl c) H := by rw [hc]; exact q
/-! ### steps: statements -/
theorem k_seq {t u : TS} (h : t { D with nx := u D } σ H) : tSeq t u D σ H := h
theorem k_seqA {g : TG} {u : TS} (h : tAsg te g { D with nx := u D } σ H) : tSeq (tAsg te g) u D σ H := h
theorem k_seqD {u : TS} (h : tDrop te { D with nx := u D } σ H) : tSeq (tDrop te) u D σ H := h
theorem k_seqP {i j : Nat} {u : TS} (h : tPar i j tr { D with nx := u D } σ H) : tSeq (tPar i j tr) u D σ H := h
theorem k_seqI {t u : TS} {c : TT} {w : TS} (h : c σ H fun b H1 => if b = true then t { D with nx := w D } σ H1 else u { D with nx := w D } σ H1) : tSeq (tIfS c t u) w D σ H := h
theorem k_nx {f : L2.St → Hp → Prop} {r : VK} {b c : L2.St → Hp → Prop} (h : f σ H) : Ends.nx ⟨f, r, b, c⟩ σ H := h
theorem k_rt {f : L2.St → Hp → Prop} {r : VK} {b c : L2.St → Hp → Prop} (h : r v H) : Ends.rt ⟨f, r, b, c⟩ v H := h
theorem k_next (h : D.nx σ H) : tNext D σ H := h
theorem k_asg {i : Nat} (h : te σ H fun x H1 => D.nx (σ.set i (some x)) H1) : tAsg te (gName i) D σ H := h
theorem k_asgG {g : TG} (h : te σ H fun x H1 => g x σ H1 D.nx) : tAsg te g D σ H := h
theorem k_gname {Q : L2.St → Hp → Prop} (h : Q (σ.set i (some v)) H) : gName i v σ H Q := h
theorem k_gtup {tg : TGs} {n : Nat} {p : Addr} {xs : List V} {Q : L2.St → Hp → Prop} (h : SqT K H p xs) (hl : xs.length = n) (q : tg xs σ H Q) : gTup K n tg (.ref p) σ H Q := ⟨p, xs, rfl, h, hl, q⟩
theorem k_gcons {tg : TG} {ug : TGs} {vs : List V} {Q : L2.St → Hp → Prop} (q : tg v σ H fun σ' H' => ug vs σ' H' Q) : gCons tg ug (v :: vs) σ H Q := ⟨v, vs, rfl, q⟩
theorem k_gnil {Q : L2.St → Hp → Prop} (q : Q σ H) : gNil [] σ H Q := ⟨rfl, q⟩
theorem k_par {i j : Nat} (h : tr σ H fun vs H1 => ∃ v w, vs = [v, w] ∧ D.nx ((σ.set i (some v)).set j (some w)) H1) : tPar i j tr D σ H := h
theorem k_par2 {P : V → V → Prop} {x y : V} (h : P x y) : ∃ v w, [x, y] = [v, w] ∧ P v w := ⟨x, y, rfl, h⟩
theorem k_drop (h : te σ H fun _ H1 => D.nx σ H1) : tDrop te D σ H := h
theorem k_ret (h : te σ H D.rt) : tRet te D σ H := h
theorem k_retN (h : D.rt .non H) : tRetN D σ H := h
theorem k_if {t u : TS} {c : TT} (h : c σ H fun b H1 => if b = true then t D σ H1 else u D σ H1) : tIfS c t u D σ H := h
theorem k_cutI {t u w : TS} {c : TT} (P : L2.St → Hp → Prop) (h1 : ∀ N : L2.St → Hp → Prop, (∀ σ' H', P σ' H' → N σ' H') → c σ H fun b H1 => if b = true then t { D with nx := N } σ H1 else u { D with nx := N } σ H1) (h2 : ∀ σ' H', P σ' H' → w D σ' H') : tSeq (tIfS c t u) w D σ H := h1 _ h2
/-- the ways of a statement meet again: what holds behind it -/
theorem k_cut {t u : TS} (P : L2.St → Hp → Prop) (h1 : ∀ N : L2.St → Hp → Prop, (∀ σ' H', P σ' H' → N σ' H') → t { D with nx := N } σ H) (h2 : ∀ σ' H', P σ' H' → u D σ' H') : tSeq t u D σ H := h1 _ h2
/-! ### loops -/
theorem k_seqW {t : TT} {tb u : TS} (h : tWhile t tb { D with nx := u D } σ H) : tSeq (tWhile t tb) u D σ H := h
theorem k_seqF {wi : TI} {g : TG} {tb u : TS} (h : tFor wi g tb { D with nx := u D } σ H) : tSeq (tFor wi g tb) u D σ H := h
theorem k_while {t : TT} {tb : TS} (W : Nat → L2.St → Hp → Prop) (m : Nat) (h0 : W m σ H) (hs : ∀ m σ H, W m σ H → t σ H fun b H1 => if b = true then ∃ N : L2.St → Hp → Prop, (∀ σ' H', N σ' H' → ∃ m', m' < m ∧ W m' σ' H') ∧ tb { D with nx := N, ct := N, bk := D.nx } σ H1 else D.nx σ H1) : tWhile t tb D σ H := ⟨W, ⟨m, h0⟩, hs⟩
theorem k_turn {tb : TS} {W : Nat → L2.St → Hp → Prop} {m : Nat} (h : tb { D with nx := fun σ' H' => ∃ m', m' < m ∧ W m' σ' H', ct := fun σ' H' => ∃ m', m' < m ∧ W m' σ' H', bk := D.nx } σ H) : ∃ N : L2.St → Hp → Prop, (∀ σ' H', N σ' H' → ∃ m', m' < m ∧ W m' σ' H') ∧ tb { D with nx := N, ct := N, bk := D.nx } σ H := ⟨_, fun _ _ h => h, h⟩
def ForG (J : It) (g : TG) (tb : TS) (D : Ends) (σ : L2.St) (H1 : Hp) : Prop := ∃ W : Nat → Nat → L2.St → Hp → Prop, (∃ m, W 0 m σ H1) ∧ ∀ i m σ H, W i m σ H →
  (J.stop i H ∧ D.nx σ H) ∨ (J.go i H ∧ ∃ N : L2.St → Hp → Prop, (∀ σ' H', N σ' H' → ∃ m', m' < m ∧ W (i + 1) m' σ' H') ∧ ∀ x H', J.yld i H x H' → g x σ H' fun σ2 H2 => tb { D with nx := N, ct := N, bk := D.nx } σ2 H2)
theorem k_for {wi : TI} {g : TG} {tb : TS} (h : wi σ H fun J H1 => ForG J g tb D σ H1) : tFor wi g tb D σ H := h
/-! ### comprehensions over a range -/
def Rng1 (vs : List V) (H : Hp) (R : It → Hp → Prop) : Prop := ∃ j : Int, vs = [.int j] ∧ -(2 ^ 62) ≤ j ∧ j < 2 ^ 62 ∧ R (Itr 0 j.toNat) H
def Rng2 (vs : List V) (H : Hp) (R : It → Hp → Prop) : Prop := ∃ i j : Int, vs = [.int i, .int j] ∧ (-(2 ^ 62) ≤ i ∧ i < 2 ^ 62 ∧ -(2 ^ 62) ≤ j ∧ j < 2 ^ 62) ∧ R (Itr i (j - i).toNat) H
theorem k_irng1 {R : It → Hp → Prop} (h : tr σ H fun vs H1 => Rng1 vs H1 R) : iRng1 tr σ H R := h
theorem k_irng2 {R : It → Hp → Prop} (h : tr σ H fun vs H1 => Rng2 vs H1 R) : iRng2 tr σ H R := h
theorem k_rng1 {n : Int} {R : It → Hp → Prop} (h0 : -(2 ^ 62) ≤ n ∧ n < 2 ^ 62) (h : R (Itr 0 n.toNat) H) : Rng1 [V.int n] H R := ⟨n, rfl, h0.1, h0.2, h⟩
theorem k_rng2 {n : Int} {R : It → Hp → Prop} (h0 : -(2 ^ 62) ≤ m ∧ m < 2 ^ 62 ∧ -(2 ^ 62) ≤ n ∧ n < 2 ^ 62) (h : R (Itr m (n - m).toNat) H) : Rng2 [V.int m, V.int n] H R := ⟨m, n, rfl, h0, h⟩
def LcG (J : It) (H1 : Hp) (g : TG) (tt : TT) (te : TE) (vs : List Nat) (σ : L2.St) (Q : VK) : Prop := ∀ D, H1 D = none → ∃ W : Nat → Nat → Hp → Prop, (∃ m, W 0 m (upd H1 D (.lst []))) ∧ ∀ i m H, W i m H →
  (J.stop i H ∧ Q (.ref D) H) ∨ (J.go i H ∧ ∃ Nx : Hp → Prop, (∀ H', Nx H' → ∃ m', m' < m ∧ W (i + 1) m' H') ∧ ∀ x H', J.yld i H x H' → g x (wipe σ vs) H' fun σ2 H2 => wipe σ2 vs = wipe σ vs ∧ tt σ2 H2 fun b H3 =>
    if b = true then te σ2 H3 fun y H4 => ∃ acc, H4 D = some (.lst acc) ∧ acc.length < sizeLine ∧ Nx (upd H4 D (.lst (acc ++ [y]))) else Nx H3)
theorem k_lc {wi : TI} {g : TG} {tt : TT} {vs : List Nat} (h : wi σ H fun J H1 => LcG J H1 g tt te vs σ Q) : tLc wi g tt te vs σ H Q := h
/-- [e for k in range(..)]: the list of the values, each told by its place -/
theorem k_lcr {lo : Int} {n j : Nat} (L : List V) (hl : L.length = n) (hz : n ≤ 1000000)
    (hs : ∀ (i : Nat) (v : V) (H2 : Hp) (R : VK), L[i]? = some v → Same H1 H2 → (∀ H3, Same H2 H3 → R v H3) → te (σ.set j (some (.int (lo + i)))) H2 R)
    (q : ∀ D H2, H1 D = none → Same H1 H2 → H2 D = some (.lst L) → Q (.ref D) H2) :
    LcG (Itr lo n) H1 (gName j) tYes te [j] σ Q := by
  intro D hD
  refine lc_range (fun i H' => Same H1 H' ∧ H' D = some (.lst (L.take i))) ⟨same_new hD, by rw [upd_same]; rfl⟩ (fun i H' hi ⟨sm, hd⟩ => ?_) (fun H' ⟨sm, hd⟩ => q D H' hD sm (by rw [hd, List.take_of_length_le (by omega)]))
  have ew : ∀ y : V, (wipe σ [j]).set j (some y) = σ.set j (some y) := fun y => by
    show ((σ.set j none).set j (some y)) = _
    rw [List.set_set]
  show wipe ((wipe σ [j]).set j _) [j] = wipe σ [j] ∧ _
  rw [ew]
  refine ⟨by show (σ.set j _).set j none = σ.set j none; rw [List.set_set], ?_⟩
  refine hs i (L[i]'(by omega)) H' _ (List.getElem?_eq_getElem (by omega)) sm fun H3 s3 => ?_
  refine ⟨L.take i, s3 _ _ hd, Nat.lt_of_le_of_lt (Nat.le_trans (by rw [List.length_take]; exact Nat.min_le_left _ _) (show i ≤ 1000000 by omega)) (by rw [sizeLine_eq]; decide), same_mut (sm.trans s3) hD, ?_⟩
  rw [upd_same, List.take_add_one, List.getElem?_eq_getElem (show i < L.length by omega)]
  rfl
/-! ### comprehensions and loops over a list, a tuple -/
def SqI (J : Addr → It) (ok : Addr → Hp → Prop) (x : V) (H : Hp) (R : It → Hp → Prop) : Prop := ∃ a, x = .ref a ∧ ok a H ∧ R (J a) H
theorem k_itup {tl : TE} {R : It → Hp → Prop} (h : tl σ H fun x H1 => SqI (Itt K) (fun a H => ∃ xs, SqT K H a xs) x H1 R) : iTup K tl σ H R := h
theorem k_ilst {tl : TE} {R : It → Hp → Prop} (h : tl σ H fun x H1 => SqI (Itl K) (fun a H => ∃ xs, SqL K H a xs) x H1 R) : iList K tl σ H R := h
theorem k_sqt {p : Addr} {xs : List V} {R : It → Hp → Prop} (h : SqT K H p xs) (q : R (Itt K p) H) : SqI (Itt K) (fun a H => ∃ xs, SqT K H a xs) (.ref p) H R := ⟨p, rfl, ⟨xs, h⟩, q⟩
theorem k_sql {p : Addr} {xs : List V} {R : It → Hp → Prop} (h : SqL K H p xs) (q : R (Itl K p) H) : SqI (Itl K) (fun a H => ∃ xs, SqL K H a xs) (.ref p) H R := ⟨p, rfl, ⟨xs, h⟩, q⟩
theorem wipe_set {σ : L2.St} {j : Nat} {y : V} : (wipe σ [j]).set j (some y) = σ.set j (some y) := by
  show ((σ.set j none).set j (some y)) = _
  rw [List.set_set]
theorem wipe_set2 {σ : L2.St} {j : Nat} {y : V} : wipe (σ.set j (some y)) [j] = wipe σ [j] := by
  show (σ.set j _).set j none = σ.set j none
  rw [List.set_set]
/-- [e for x in t], t a tuple: the list of the values -/
theorem k_lct {a : Addr} {xs : List V} {j : Nat} (hx : SqT K H1 a xs) (L : List V) (hl : L.length = xs.length) (hz : xs.length ≤ 1000000)
    (hs : ∀ (i : Nat) (x v : V) (H2 : Hp) (R : VK), xs[i]? = some x → L[i]? = some v → Same H1 H2 → (∀ H3, Same H2 H3 → R v H3) → te (σ.set j (some x)) H2 R)
    (q : ∀ D H2, H1 D = none → Same H1 H2 → H2 D = some (.lst L) → Q (.ref D) H2) : LcG (Itt K a) H1 (gName j) tYes te [j] σ Q := by
  intro D hD
  refine lc_tup (fun i H' => Same H1 H' ∧ H' D = some (.lst (L.take i))) ⟨same_new hD, by rw [upd_same]; rfl⟩ (fun i H' _ ⟨sm, _⟩ => same_t sm hx) (fun i x H' hi ⟨sm, hd⟩ => ?_) (fun H' ⟨sm, hd⟩ => q D H' hD sm (by rw [hd, List.take_of_length_le (by omega)]))
  have hil := (List.getElem?_eq_some_iff.mp hi).1
  show wipe ((wipe σ [j]).set j _) [j] = wipe σ [j] ∧ _
  rw [wipe_set]
  refine ⟨wipe_set2, ?_⟩
  refine hs i x (L[i]'(by omega)) H' _ hi (List.getElem?_eq_getElem (by omega)) sm fun H3 s3 => ?_
  refine ⟨L.take i, s3 _ _ hd, Nat.lt_of_le_of_lt (Nat.le_trans (by rw [List.length_take]; exact Nat.min_le_left _ _) (show i ≤ 1000000 by omega)) (by rw [sizeLine_eq]; decide), same_mut (sm.trans s3) hD, ?_⟩
  rw [upd_same, List.take_add_one, List.getElem?_eq_getElem (show i < L.length by omega)]
  rfl
/-- [e for x in xs], xs a list -/
theorem k_lcl {a : Addr} {xs : List V} {j : Nat} (hx : SqL K H1 a xs) (L : List V) (hl : L.length = xs.length) (hz : xs.length ≤ 1000000)
    (hs : ∀ (i : Nat) (x v : V) (H2 : Hp) (R : VK), xs[i]? = some x → L[i]? = some v → Same H1 H2 → (∀ H3, Same H2 H3 → R v H3) → te (σ.set j (some x)) H2 R)
    (q : ∀ D H2, H1 D = none → Same H1 H2 → H2 D = some (.lst L) → Q (.ref D) H2) : LcG (Itl K a) H1 (gName j) tYes te [j] σ Q := by
  intro D hD
  refine lc_list (fun i H' => Same H1 H' ∧ H' D = some (.lst (L.take i))) ⟨same_new hD, by rw [upd_same]; rfl⟩ (fun i H' _ ⟨sm, _⟩ => same_l sm hx) (fun i x H' hi ⟨sm, hd⟩ => ?_) (fun H' ⟨sm, hd⟩ => q D H' hD sm (by rw [hd, List.take_of_length_le (by omega)]))
  have hil := (List.getElem?_eq_some_iff.mp hi).1
  show wipe ((wipe σ [j]).set j _) [j] = wipe σ [j] ∧ _
  rw [wipe_set]
  refine ⟨wipe_set2, ?_⟩
  refine hs i x (L[i]'(by omega)) H' _ hi (List.getElem?_eq_getElem (by omega)) sm fun H3 s3 => ?_
  refine ⟨L.take i, s3 _ _ hd, Nat.lt_of_le_of_lt (Nat.le_trans (by rw [List.length_take]; exact Nat.min_le_left _ _) (show i ≤ 1000000 by omega)) (by rw [sizeLine_eq]; decide), same_mut (sm.trans s3) hD, ?_⟩
  rw [upd_same, List.take_add_one, List.getElem?_eq_getElem (show i < L.length by omega)]
  rfl
theorem rgc_pos {a b c : Int} (ha : 0 ≤ a) (ha' : a ≤ 1000000000) (hb : 0 ≤ b) (hb' : b ≤ 1000000000) (hc : 1 ≤ c) (hc' : c ≤ 1000000000) :
    ∃ n : Nat, RgC a b c n ∧ (n : Int) ≤ b ∧ ∀ i : Nat, i < n ↔ a + i * c < b := by
  have hpos : (0 : Int) ≤ Builtin.Range.rangeSize a b c := by
    unfold Builtin.Range.rangeSize
    rw [if_pos (by omega)]
    split
    · have := Int.ediv_nonneg (a := b - a - 1) (b := c) (by omega) (by omega); omega
    · omega
  have hle : Builtin.Range.rangeSize a b c ≤ b := by
    unfold Builtin.Range.rangeSize
    rw [if_pos (by omega)]
    split
    · have := Int.ediv_le_self c (show 0 ≤ b - a - 1 by omega); omega
    · omega
  obtain ⟨n, hn⟩ := Int.eq_ofNat_of_zero_le hpos
  refine ⟨n, ⟨by omega, by omega, ?_, hn⟩, by omega, fun i => ?_⟩
  · unfold Builtin.Range.small
    simp only [Builtin.Range.rangeFitsLong, Bool.and_eq_true, Bool.or_eq_true, decide_eq_true_eq, beq_iff_eq]
    rw [if_pos (show c > 0 by omega)]
    simp only [Bool.and_eq_true, decide_eq_true_eq]
    refine ⟨⟨⟨⟨?_, ?_⟩, ?_⟩, ?_⟩, .inr ?_⟩ <;> omega
  · unfold Builtin.Range.rangeSize at hn
    rw [if_pos (show c > 0 by omega)] at hn
    have e1 := Int.emod_add_mul_ediv (b - a - 1) c
    have e2 := Int.emod_nonneg (b - a - 1) (show c ≠ 0 by omega)
    have e3 := Int.emod_lt_of_pos (b - a - 1) (show 0 < c by omega)
    by_cases hab : a < b
    · rw [if_pos hab] at hn
      generalize (b - a - 1) / c = q at *
      constructor
      · intro hi
        have : c * (i : Int) ≤ c * q := Int.mul_le_mul_of_nonneg_left (by omega) (by omega)
        rw [Int.mul_comm (i : Int)]; omega
      · intro hi
        by_cases h : (i : Int) ≤ q
        · omega
        · have : c * (q + 1) ≤ c * (i : Int) := Int.mul_le_mul_of_nonneg_left (by omega) (by omega)
          rw [Int.mul_add] at this
          rw [Int.mul_comm (i : Int)] at hi; omega
    · rw [if_neg hab] at hn
      constructor
      · intro hi; omega
      · intro hi
        have : 0 ≤ (i : Int) * c := Int.mul_nonneg (by omega) (by omega)
        omega
def Rng3 (vs : List V) (H : Hp) (R : It → Hp → Prop) : Prop := ∃ (i j c : Int) (n : Nat), vs = [.int i, .int j, .int c] ∧ RgC i j c n ∧ R (Itc i c n) H
theorem k_irng3 {R : It → Hp → Prop} (h : tr σ H fun vs H1 => Rng3 vs H1 R) : iRng3 tr σ H R := h
theorem k_rng3 {i j c : Int} {n : Nat} {R : It → Hp → Prop} (h0 : RgC i j c n) (h : R (Itc i c n) H) : Rng3 [V.int i, V.int j, V.int c] H R := ⟨i, j, c, n, rfl, h0, h⟩
/-! ### list(range(..)), list + list -/
def LstRg (x : V) (H : Hp) (Q : VK) : Prop := ∃ n, x = .int n ∧ (RgOk 0 n ∧ ∀ q, H q = none → Q (.ref q) (upd H q (.lst (rgV 0 n))))
theorem k_lstrg (h : ta σ H fun x H1 => LstRg x H1 Q) : tLstRg (tRg1 ta) σ H Q := h
theorem k_lstrgV (h0 : 0 ≤ a ∧ a ≤ 16777216) (h : ∀ p H2, H p = none → Same H H2 → H2 p = some (.lst (rgV 0 a)) → Q (.ref p) H2) : LstRg (.int a) H Q :=
  ⟨a, rfl, RgOk.of_le (by omega) h0.2 (by omega) h0.1, fun p hp => h p _ hp (same_new hp) upd_same⟩
/-! ### any comprehension: over what tells n items one by one, with a test -/
theorem k_lcG {J : It} {n j : Nat} {item : Nat → V} {tt : TT} (p : Nat → Bool) (g : Nat → V) (hz : n ≤ 1000000)
    (hgo : ∀ i H2, Same H1 H2 → i < n → J.go i H2) (hy : ∀ i H2 x H', Same H1 H2 → i < n → J.yld i H2 x H' → H' = H2 ∧ x = item i) (hst : ∀ H2, Same H1 H2 → J.stop n H2)
    (ht : ∀ i H2 (R : Bool → Hp → Prop), i < n → Same H1 H2 → (∀ H3, Same H2 H3 → R (p i) H3) → tt (σ.set j (some (item i))) H2 R)
    (hv : ∀ i H2 (R : VK), i < n → p i = true → Same H1 H2 → (∀ H3, Same H2 H3 → R (g i) H3) → te (σ.set j (some (item i))) H2 R)
    (q : ∀ D H2, H1 D = none → Same H1 H2 → H2 D = some (.lst (((List.range n).filter p).map g)) → Q (.ref D) H2) : LcG J H1 (gName j) tt te [j] σ Q := by
  intro D hD
  refine ⟨fun i m H' => m = n - i ∧ i ≤ n ∧ Same H1 H' ∧ H' D = some (.lst (((List.range i).filter p).map g)), ⟨n, rfl, Nat.zero_le _, same_new hD, by rw [upd_same]; rfl⟩, ?_⟩
  rintro i m H' ⟨rfl, hi, sm, hd⟩
  by_cases hlt : i < n
  · refine .inr ⟨hgo i H' sm hlt, fun H'' => i + 1 ≤ n ∧ Same H1 H'' ∧ H'' D = some (.lst (((List.range (i + 1)).filter p).map g)), fun H'' ⟨a, b, c⟩ => ⟨n - (i + 1), by omega, rfl, a, b, c⟩, fun x H'' y => ?_⟩
    obtain ⟨rfl, rfl⟩ := hy i H' x H'' sm hlt y
    show wipe ((wipe σ [j]).set j _) [j] = wipe σ [j] ∧ _
    rw [wipe_set]
    refine ⟨wipe_set2, ht i H'' _ hlt sm fun H3 s3 => ?_⟩
    have er : ((List.range (i + 1)).filter p).map g = ((List.range i).filter p).map g ++ (if p i = true then [g i] else []) := by
      rw [List.range_succ, List.filter_append, List.map_append]
      congr 1
      by_cases h : p i = true <;> simp [h]
    cases hp : p i with
    | true =>
      refine hv i H3 _ hlt hp (sm.trans s3) fun H4 s4 => ?_
      refine ⟨_, s4 _ _ (s3 _ _ hd), ?_, hlt, same_mut ((sm.trans s3).trans s4) hD, ?_⟩
      · rw [List.length_map]
        refine Nat.lt_of_le_of_lt (Nat.le_trans (List.length_filter_le _ _) (by rw [List.length_range]; exact (show i ≤ 1000000 by omega))) (by rw [sizeLine_eq]; decide)
      · rw [upd_same, er, if_pos hp]
    | false =>
      refine ⟨hlt, sm.trans s3, ?_⟩
      rw [s3 _ _ hd, er, if_neg (by rw [hp]; decide), List.append_nil]
  · have e : i = n := by omega
    subst e
    exact .inl ⟨hst H' sm, q D H' hD sm hd⟩
theorem k_lcrf {lo : Int} {n j : Nat} {tt : TT} (p : Nat → Bool) (g : Nat → V) (hz : n ≤ 1000000)
    (ht : ∀ i H2 (R : Bool → Hp → Prop), i < n → Same H1 H2 → (∀ H3, Same H2 H3 → R (p i) H3) → tt (σ.set j (some (.int (lo + i)))) H2 R)
    (hv : ∀ i H2 (R : VK), i < n → p i = true → Same H1 H2 → (∀ H3, Same H2 H3 → R (g i) H3) → te (σ.set j (some (.int (lo + i)))) H2 R)
    (q : ∀ D H2, H1 D = none → Same H1 H2 → H2 D = some (.lst (((List.range n).filter p).map g)) → Q (.ref D) H2) : LcG (Itr lo n) H1 (gName j) tt te [j] σ Q :=
  k_lcG (item := fun i => .int (lo + i)) p g hz (fun i H2 _ h => h) (fun i H2 x H' _ _ y => ⟨y.1, y.2⟩) (fun H2 _ => Nat.le_refl _) ht hv q
theorem k_lccf {lo c : Int} {n j : Nat} {tt : TT} (p : Nat → Bool) (g : Nat → V) (hz : n ≤ 1000000)
    (ht : ∀ i H2 (R : Bool → Hp → Prop), i < n → Same H1 H2 → (∀ H3, Same H2 H3 → R (p i) H3) → tt (σ.set j (some (.int (lo + (i : Nat) * c)))) H2 R)
    (hv : ∀ i H2 (R : VK), i < n → p i = true → Same H1 H2 → (∀ H3, Same H2 H3 → R (g i) H3) → te (σ.set j (some (.int (lo + (i : Nat) * c)))) H2 R)
    (q : ∀ D H2, H1 D = none → Same H1 H2 → H2 D = some (.lst (((List.range n).filter p).map g)) → Q (.ref D) H2) : LcG (Itc lo c n) H1 (gName j) tt te [j] σ Q :=
  k_lcG (item := fun i => .int (lo + (i : Nat) * c)) p g hz (fun i H2 _ h => h) (fun i H2 x H' _ _ y => ⟨y.1, y.2⟩) (fun H2 _ => Nat.le_refl _) ht hv q
theorem k_lclf {a : Addr} {xs : List V} {j : Nat} {tt : TT} (hx : SqL K H1 a xs) (p : Nat → Bool) (g : Nat → V) (hz : xs.length ≤ 1000000)
    (ht : ∀ i H2 (R : Bool → Hp → Prop), i < xs.length → Same H1 H2 → (∀ H3, Same H2 H3 → R (p i) H3) → tt (σ.set j (some (xs.getD i .non))) H2 R)
    (hv : ∀ i H2 (R : VK), i < xs.length → p i = true → Same H1 H2 → (∀ H3, Same H2 H3 → R (g i) H3) → te (σ.set j (some (xs.getD i .non))) H2 R)
    (q : ∀ D H2, H1 D = none → Same H1 H2 → H2 D = some (.lst (((List.range xs.length).filter p).map g)) → Q (.ref D) H2) : LcG (Itl K a) H1 (gName j) tt te [j] σ Q :=
  k_lcG (item := fun i => xs.getD i .non) p g hz (fun i H2 s h => ⟨xs, xs[i], same_l s hx, by simp [h]⟩) (fun i H2 x H' s h y => by
    obtain ⟨e, y⟩ := y
    refine ⟨e, ?_⟩
    have := y xs (same_l s hx)
    rw [List.getD_eq_getElem?_getD, this]; rfl) (fun H2 s => ⟨xs, same_l s hx, Nat.le_refl _⟩) ht hv q
theorem range_all {α : Type} (xs : List α) (d : α) : ((List.range xs.length).filter fun _ => true).map (fun i => xs.getD i d) = xs := by
  rw [List.filter_eq_self.mpr (fun _ _ => rfl)]
  apply List.ext_getElem
  · simp
  · intro i h1 h2
    simp [List.getD_eq_getElem?_getD, List.getElem?_eq_getElem h2]
/-! ### operators by values -/
def rAddA : R2 := fun x y H Q => rI0 (fun i j => .int (i + j)) x y H Q ∨ (∃ i j, x = .str i ∧ y = .str j ∧ i.length + j.length ≤ sizeLine ∧ Q (.str (i ++ j)) H) ∨ rCat x y H Q
theorem op_addA {X : Cx} : OpR X (binaryOp .Add) rAddA := op_add.or (op_add_str.or op_cat)
theorem k_add (q : Q (.int (a + b)) H) : rAddA (.int a) (.int b) H Q := .inl ⟨a, b, rfl, rfl, q⟩
theorem k_cat {l c : Addr} {xs zs : List V} (h1 : H l = some (.lst xs)) (h2 : H c = some (.lst zs)) (hl : xs.length + zs.length ≤ 16000000) (h : ∀ p H2, H p = none → Same H H2 → H2 p = some (.lst (xs ++ zs)) → Q (.ref p) H2) : rAddA (.ref l) (.ref c) H Q :=
  .inr (.inr ⟨l, c, xs, zs, rfl, rfl, h1, h2, Nat.le_trans hl (by rw [sizeLine_eq]; decide), fun p hp => h p _ hp (same_new hp) upd_same⟩)
def rEqA (K : PySem.W.Frag) : R2 := fun x y H Q => rEq x y H Q ∨ rEqD K x y H Q
def rNeA (K : PySem.W.Frag) : R2 := fun x y H Q => rNe x y H Q ∨ rNeD K x y H Q
theorem op_eqA {X : Cx} (hu : X.A.units + 64 < cLine) : OpR X (compareOp .Eq) (rEqA X.K) := op_eq.or (op_eqD hu)
theorem op_neA {X : Cx} (hu : X.A.units + 64 < cLine) : OpR X (compareOp .NotEq) (rNeA X.K) := op_ne.or (op_neD hu)
theorem dec_i : decide (V.int a = V.int b) = decide (a = b) := by
  by_cases h : a = b
  · subst h; simp
  · rw [decide_eq_false h, decide_eq_false (fun e => h (V.int.inj e))]
theorem dec_b {a b : Bool} : decide (V.bl a = V.bl b) = decide (a = b) := by
  by_cases h : a = b
  · subst h; simp
  · rw [decide_eq_false h, decide_eq_false (fun e => h (V.bl.inj e))]
theorem dec_s {a b : Str} : decide (V.str a = V.str b) = decide (a = b) := by
  by_cases h : a = b
  · subst h; simp
  · rw [decide_eq_false h, decide_eq_false (fun e => h (V.str.inj e))]
theorem k_eq (q : Q (.bl (decide (a = b))) H) : rEqA K (.int a) (.int b) H Q := .inl ⟨rfl, by rw [dec_i]; exact q⟩
theorem k_ne (q : Q (.bl (!decide (a = b))) H) : rNeA K (.int a) (.int b) H Q := .inl ⟨rfl, by rw [dec_i]; exact q⟩
theorem k_eqb {a b : Bool} (q : Q (.bl (decide (a = b))) H) : rEqA K (.bl a) (.bl b) H Q := .inl ⟨rfl, by rw [dec_b]; exact q⟩
theorem k_neb {a b : Bool} (q : Q (.bl (!decide (a = b))) H) : rNeA K (.bl a) (.bl b) H Q := .inl ⟨rfl, by rw [dec_b]; exact q⟩
theorem k_eqs {a b : Str} (q : Q (.bl (decide (a = b))) H) : rEqA K (.str a) (.str b) H Q := .inl ⟨rfl, by rw [dec_s]; exact q⟩
theorem k_nes {a b : Str} (q : Q (.bl (!decide (a = b))) H) : rNeA K (.str a) (.str b) H Q := .inl ⟨rfl, by rw [dec_s]; exact q⟩
theorem k_ixT {p : Addr} {xs : List V} {i : Int} (h : SqT K H p xs) (ha : atI xs i = some v) (q : Q v H) : rIx K (.ref p) (.int i) H Q := .inr (.inl ⟨p, xs, i, v, rfl, rfl, h, ha, q⟩)
theorem k_ixL {p : Addr} {xs : List V} {i : Int} (h : SqL K H p xs) (ha : atI xs i = some v) (q : Q v H) : rIx K (.ref p) (.int i) H Q := .inl ⟨p, xs, i, v, rfl, rfl, h, ha, q⟩
theorem inV_ints {a : Int} : ∀ l : List Int, inV (.int a) (l.map V.int) = decide (a ∈ l)
  | [] => rfl
  | x :: r => by
    have ih := inV_ints (a := a) r
    show (inV (.int a) (.int x :: r.map V.int)) = _
    unfold inV at ih ⊢
    rw [List.any_cons, ih]
    have e : eqV (.int x) (.int a) = decide (a = x) := by
      show (x == a) = decide (a = x)
      by_cases h : a = x
      · subst h; simp
      · rw [decide_eq_false h]; simpa using fun e => h e.symm
    by_cases h : a = x
    · subst h; simp [e]
    · simp [e, h]
theorem flat_ints : ∀ l : List Int, (l.map V.int).all flatV = true
  | [] => rfl
  | x :: r => by rw [List.map_cons, List.all_cons, flat_ints r]; rfl
theorem k_inL {neg : Bool} {p : Addr} {l : List Int} (h : SqL K H p (l.map V.int)) (q : Q (.bl (if neg then !decide (a ∈ l) else decide (a ∈ l))) H) : rIn K neg (.int a) (.ref p) H Q :=
  ⟨p, l.map V.int, rfl, .inl h, rfl, flat_ints l, by rw [inV_ints]; exact q⟩
theorem k_notinL {p : Addr} {l : List Int} (h : SqL K H p (l.map V.int)) (q : Q (.bl (!decide (a ∈ l))) H) : rIn K true (.int a) (.ref p) H Q := k_inL (neg := true) h q
theorem k_inL' {p : Addr} {l : List Int} (h : SqL K H p (l.map V.int)) (q : Q (.bl (decide (a ∈ l))) H) : rIn K false (.int a) (.ref p) H Q := k_inL (neg := false) h q
theorem inV2 {x y : Int} : inV (.int a) [.int x, .int y] = decide (a = x ∨ a = y) := by
  have h := inV_ints (a := a) [x, y]
  have e : (decide (a ∈ [x, y])) = decide (a = x ∨ a = y) := by
    have : a ∈ [x, y] ↔ (a = x ∨ a = y) := by simp
    simp [this]
  exact h.trans e
theorem k_notin2 {p : Addr} {x y : Int} (h : SqL K H p [.int x, .int y]) (q : Q (.bl (!decide (a = x ∨ a = y))) H) : rIn K true (.int a) (.ref p) H Q :=
  ⟨p, _, rfl, .inl h, rfl, rfl, by rw [inV2]; exact q⟩
theorem k_in2 {p : Addr} {x y : Int} (h : SqL K H p [.int x, .int y]) (q : Q (.bl (decide (a = x ∨ a = y))) H) : rIn K false (.int a) (.ref p) H Q :=
  ⟨p, _, rfl, .inl h, rfl, rfl, by rw [inV2]; exact q⟩
def rIsN : R2 := fun x y H Q => y = .non ∧ Q (.bl (decide (x = .non))) H
def rNotN : R2 := fun x y H Q => y = .non ∧ Q (.bl (!decide (x = .non))) H
theorem kb_isN {X : Cx} : OpR X (compareOp .Is) rIsN := op_isN
theorem kb_notN {X : Cx} : OpR X (compareOp .IsNot) rNotN := op_notN
theorem k_isN_n (q : Q (.bl true) H) : rIsN .non .non H Q := ⟨rfl, q⟩
theorem k_isN_i (q : Q (.bl false) H) : rIsN (.int a) .non H Q := ⟨rfl, q⟩
theorem k_isN_r {p : Addr} (q : Q (.bl false) H) : rIsN (.ref p) .non H Q := ⟨rfl, q⟩
theorem k_notN_n (q : Q (.bl false) H) : rNotN .non .non H Q := ⟨rfl, q⟩
theorem k_notN_i (q : Q (.bl true) H) : rNotN (.int a) .non H Q := ⟨rfl, q⟩
theorem k_notN_r {p : Addr} (q : Q (.bl true) H) : rNotN (.ref p) .non H Q := ⟨rfl, q⟩
/-! ### == of pairs and lists of ints -/
theorem dp_ints : ∀ l : List Int, DpAll K H (l.map V.int) (l.map PyData.int)
  | [] => .nil
  | x :: r => .cons (.int x) (dp_ints r)
theorem eqv_ints : ∀ l m : List Int, PyData.eqvAll (l.map PyData.int) (m.map PyData.int) = decide (l = m)
  | [], [] => by simp [PyData.eqvAll]
  | [], _ :: _ => by simp [PyData.eqvAll]
  | _ :: _, [] => by simp [PyData.eqvAll]
  | x :: r, y :: t => by
    rw [List.map_cons, List.map_cons, PyData.eqvAll, eqv_ints r t, PyData.eqv]
    by_cases h : x = y <;> simp [h]
theorem shaped_tints (l : List Int) : SeqAt.shaped (.tuple (l.map PyData.int)) = true := by
  have h1 : ∀ l : List Int, PyData.canLayAll0 (l.map PyData.int) = true := fun l => by
    induction l with
    | nil => rfl
    | cons x r ih => rw [List.map_cons]; simp [PyData.canLayAll0, PyData.canLay0, ih]
  have h2 : ∀ l : List Int, PyData.depthAll (l.map PyData.int) ≤ 1 := fun l => by
    induction l with
    | nil => simp [PyData.depthAll]
    | cons x r ih => rw [List.map_cons]; simp [PyData.depthAll, PyData.depth]; omega
  have := h2 l
  simp [SeqAt.shaped, PyData.canLay0, PyData.depth, h1 l]
  omega
theorem shaped_lints (l : List Int) : SeqAt.shaped (.list (l.map PyData.int)) = true := by
  have h1 : ∀ l : List Int, PyData.canLayAll0 (l.map PyData.int) = true := fun l => by
    induction l with
    | nil => rfl
    | cons x r ih => rw [List.map_cons]; simp [PyData.canLayAll0, PyData.canLay0, ih]
  have h2 : ∀ l : List Int, PyData.depthAll (l.map PyData.int) ≤ 1 := fun l => by
    induction l with
    | nil => simp [PyData.depthAll]
    | cons x r ih => rw [List.map_cons]; simp [PyData.depthAll, PyData.depth]; omega
  have := h2 l
  simp [SeqAt.shaped, PyData.canLay0, PyData.depth, h1 l]
  omega
theorem k_eqT {p q : Addr} {l m : List Int} (h1 : SqT K H p (l.map V.int)) (h2 : SqT K H q (m.map V.int)) (r : Q (.bl (decide (l = m))) H) : rEqA K (.ref p) (.ref q) H Q :=
  .inr ⟨_, _, .tup h1 (dp_ints l), .tup h2 (dp_ints m), shaped_tints l, shaped_tints m, by rw [PyData.eqv, eqv_ints]; exact r⟩
theorem k_neT {p q : Addr} {l m : List Int} (h1 : SqT K H p (l.map V.int)) (h2 : SqT K H q (m.map V.int)) (r : Q (.bl (!decide (l = m))) H) : rNeA K (.ref p) (.ref q) H Q :=
  .inr ⟨_, _, .tup h1 (dp_ints l), .tup h2 (dp_ints m), shaped_tints l, shaped_tints m, by rw [PyData.eqv, eqv_ints]; exact r⟩
theorem k_eqL {p q : Addr} {l m : List Int} (h1 : SqL K H p (l.map V.int)) (h2 : SqL K H q (m.map V.int)) (r : Q (.bl (decide (l = m))) H) : rEqA K (.ref p) (.ref q) H Q :=
  .inr ⟨_, _, .lst h1 (dp_ints l), .lst h2 (dp_ints m), shaped_lints l, shaped_lints m, by rw [PyData.eqv, eqv_ints]; exact r⟩
theorem k_neL {p q : Addr} {l m : List Int} (h1 : SqL K H p (l.map V.int)) (h2 : SqL K H q (m.map V.int)) (r : Q (.bl (!decide (l = m))) H) : rNeA K (.ref p) (.ref q) H Q :=
  .inr ⟨_, _, .lst h1 (dp_ints l), .lst h2 (dp_ints m), shaped_lints l, shaped_lints m, by rw [PyData.eqv, eqv_ints]; exact r⟩
theorem k_eqP {p q : Addr} {c d : Int} (h1 : SqT K H p [.int a, .int b]) (h2 : SqT K H q [.int c, .int d]) (r : Q (.bl (decide (a = c ∧ b = d))) H) : rEqA K (.ref p) (.ref q) H Q :=
  k_eqT (l := [a, b]) (m := [c, d]) h1 h2 (by
    have e : decide ([a, b] = [c, d]) = decide (a = c ∧ b = d) := by simp
    rw [e]; exact r)
theorem k_neP {p q : Addr} {c d : Int} (h1 : SqT K H p [.int a, .int b]) (h2 : SqT K H q [.int c, .int d]) (r : Q (.bl (!decide (a = c ∧ b = d))) H) : rNeA K (.ref p) (.ref q) H Q :=
  k_neT (l := [a, b]) (m := [c, d]) h1 h2 (by
    have e : decide ([a, b] = [c, d]) = decide (a = c ∧ b = d) := by simp
    rw [e]; exact r)
/-! ### calls of built-ins by values -/
def rAbs : List V → Hp → VK → Prop := fun xs H Q => ∃ i, xs = [.int i] ∧ Q (.int (if i < 0 then -i else i)) H
theorem cb_abs {X : Cx} : CallR X (.builtin "abs") rAbs := call_abs
theorem k_abs (q : Q (.int (if a < 0 then -a else a)) H) : rAbs [.int a] H Q := ⟨a, rfl, q⟩
def rMax2 : List V → Hp → VK → Prop := fun xs H Q => ∃ i j, xs = [.int i, .int j] ∧ Q (.int (if j > i then j else i)) H
theorem cb_max2 {X : Cx} (hc : X.calm = true) : CallR X (.builtin "max") rMax2 := call_max2 hc
theorem k_max2 (q : ∀ k : Int, (k = a ∨ k = b) → a ≤ k → b ≤ k → Q (.int k) H) : rMax2 [.int a, .int b] H Q := ⟨a, b, rfl, by split <;> exact q _ (by omega) (by omega) (by omega)⟩
def rMin2 : List V → Hp → VK → Prop := fun xs H Q => ∃ i j, xs = [.int i, .int j] ∧ Q (.int (if j < i then j else i)) H
theorem cb_min2 {X : Cx} (hc : X.calm = true) : CallR X (.builtin "min") rMin2 := call_min2 hc
theorem k_min2 (q : ∀ k : Int, (k = a ∨ k = b) → k ≤ a → k ≤ b → Q (.int k) H) : rMin2 [.int a, .int b] H Q := ⟨a, b, rfl, by split <;> exact q _ (by omega) (by omega) (by omega)⟩
def rLen (K : PySem.W.Frag) : List V → Hp → VK → Prop := fun xs H Q => ∃ x n, xs = [x] ∧ LenV K x H n ∧ Q (.int n) H
theorem cb_len {X : Cx} : CallR X (.builtin "len") (rLen X.K) := call_len
theorem k_lenL {p : Addr} {xs : List V} (h : SqL K H p xs) (q : Q (.int (xs.length : Int)) H) : rLen K [.ref p] H Q := ⟨.ref p, xs.length, rfl, .inl ⟨xs, h, rfl⟩, q⟩
theorem k_lenT {p : Addr} {xs : List V} (h : SqT K H p xs) (q : Q (.int (xs.length : Int)) H) : rLen K [.ref p] H Q := ⟨.ref p, xs.length, rfl, .inr ⟨xs, h, rfl⟩, q⟩
def rDivmod : List V → Hp → VK → Prop := fun xs H Q => ∃ i j, xs = [.int i, .int j] ∧ CDivP i j ∧ ∀ p, H p = none → Q (.ref p) (upd H p (.tup [.int (i / j), .int (i % j)]))
theorem cb_divmod {X : Cx} : CallR X (.builtin "divmod") rDivmod := call_divmodW
theorem k_divmod (c : CDivP a b) (h : ∀ p H2, H p = none → Same H H2 → H2 p = some (.tup [.int (a / b), .int (a % b)]) → Q (.ref p) H2) : rDivmod [.int a, .int b] H Q :=
  ⟨a, b, rfl, c, fun p hp => h p _ hp (same_new hp) upd_same⟩
theorem k_sum {p : Addr} {l : List Int} (h : SqL K H p (l.map V.int)) (q : Q (.int l.sum) H) : rSum K [.ref p] H Q := ⟨p, l, rfl, h, q⟩
theorem k_all {p : Addr} {l : List Bool} (h : SqL K H p (l.map V.bl)) (q : Q (.bl (l.all id)) H) : rAll K [.ref p] H Q := ⟨p, l, rfl, h, q⟩
theorem k_any {p : Addr} {l : List Bool} (h : SqL K H p (l.map V.bl)) (q : Q (.bl (l.any id)) H) : rAny K [.ref p] H Q := ⟨p, l, rfl, h, q⟩
def BitsV (x : V) (H : Hp) (Q : VK) : Prop := ∃ i, x = .int i ∧ Q (.int (Builtin.Int.intBits i : Nat)) H
theorem k_bits (h : ta σ H fun x H1 => BitsV x H1 Q) : tBits ta σ H Q := h
theorem k_bitsV (q : Q (.int (Builtin.Int.intBits a : Nat)) H) : BitsV (.int a) H Q := ⟨a, rfl, q⟩
def rInt : List V → Hp → VK → Prop := fun xs H Q => (∃ i, xs = [.int i] ∧ Q (.int i) H) ∨ ∃ k, xs = [.bl k] ∧ Q (.int (if k then 1 else 0)) H
theorem cb_int {X : Cx} : CallR X (.type "int") rInt := call_int1
theorem k_intI (q : Q (.int a) H) : rInt [.int a] H Q := .inl ⟨a, rfl, q⟩
theorem k_intB {c : Bool} (q : Q (.int (if c then 1 else 0)) H) : rInt [.bl c] H Q := .inr ⟨c, rfl, q⟩
theorem k_isi_ii (q : Q (.bl true) H) : rIsi K [.int a, .ty "int"] H Q := ⟨.int a, .ty "int", .type "int", .type "int", true, rfl, .ty _, .base (.int _), kit_ty (by decide +kernel), q⟩
theorem k_isi_ib (q : Q (.bl false) H) : rIsi K [.int a, .ty "bool"] H Q := ⟨.int a, .ty "bool", .type "int", .type "bool", false, rfl, .ty _, .base (.int _), kit_ty (by decide +kernel), q⟩
theorem k_isi_bb {c : Bool} (q : Q (.bl true) H) : rIsi K [.bl c, .ty "bool"] H Q := ⟨.bl c, .ty "bool", .type "bool", .type "bool", true, rfl, .ty _, .base (.bl _), kit_ty (by decide +kernel), q⟩
theorem k_isi_it (q : Q (.bl false) H) : rIsi K [.int a, .ty "tuple"] H Q := ⟨.int a, .ty "tuple", .type "int", .type "tuple", false, rfl, .ty _, .base (.int _), kit_ty (by decide +kernel), q⟩
theorem tyx_t {p : Addr} {xs : List V} (h : SqT K H p xs) : TyX K H (.ref p) (.type "tuple") := by
  rcases h with (h | ⟨o, h⟩) | ⟨o, its, n, l, c, _⟩
  · exact .base (.tup h)
  · exact .fTuple h
  · exact .kTuple l c
theorem k_isi_tt {p : Addr} {xs : List V} (h : SqT K H p xs) (q : Q (.bl true) H) : rIsi K [.ref p, .ty "tuple"] H Q := ⟨.ref p, .ty "tuple", .type "tuple", .type "tuple", true, rfl, .ty _, tyx_t h, kit_ty (by decide +kernel), q⟩
/-! ### the rules that speak of the written part, by its own letter -/
section
variable {X : Cx} (K : PySem.W.Frag) (hK : X.K = K := by rfl)
include hK
theorem kb_ix : IxR X (rIx K) := hK ▸ ix_seq
theorem kb_eq (hu : X.A.units + 64 < cLine) : OpR X (compareOp .Eq) (rEqA K) := hK ▸ op_eqA hu
theorem kb_ne (hu : X.A.units + 64 < cLine) : OpR X (compareOp .NotEq) (rNeA K) := hK ▸ op_neA hu
theorem kb_in : OpR X (compareOp .In) (rIn K false) := hK ▸ op_in_seq
theorem kb_notIn : OpR X (compareOp .NotIn) (rIn K true) := hK ▸ op_notIn_seq
theorem kb_len : CallR X (.builtin "len") (rLen K) := hK ▸ cb_len
theorem kb_isi : CallR X (.builtin "isinstance") (rIsi K) := hK ▸ call_isi
theorem kb_sum (hc : X.calm = true) : CallR X (.builtin "sum") (rSum K) := hK ▸ cr_sum hc
theorem kb_max (hc : X.calm = true) : CallR X (.builtin "max") (rMax K) := hK ▸ cr_max hc
theorem kb_min (hc : X.calm = true) : CallR X (.builtin "min") (rMin K) := hK ▸ cr_min hc
theorem kb_all (hc : X.calm = true) : CallR X (.builtin "all") (rAll K) := hK ▸ cr_all hc
theorem kb_any (hc : X.calm = true) : CallR X (.builtin "any") (rAny K) := hK ▸ cr_any hc
end
/-- // by any divisor but 0, below 2 ^ 9000 -/
def CDivX (_ j : Int) : Prop := j ≠ 0 ∧ j.natAbs.log2 < 9000
theorem op_fdivX {X : Cx} : OpR X (binaryOp .FloorDiv) (rI CDivX fun i j => .int (i.fdiv j)) := opI fun i j _ _ _ _ _ hc q => floordiv_int hc.1 q (.inl (PyProof.noPylong_of_log2 hc.2))
/-- a power of written numbers -/
theorem pe_powc {X : Cx} {b e n : Int} {j1 j2 : Nat} {p1 p2 pos : Pos} (h : (0 ≤ e ∧ e ≤ 1000000 ∧ b.natAbs < 2 ^ 64) ∧ b ^ e.toNat = n) : PE X (.BinOp (.Constant (.int b) j1 p1) .Pow (.Constant (.int e) j2 p2) pos) (tC (.int n)) :=
  ⟨fun pins s σ H Q I q => (pe_op (X := X) op_pow pe_int pe_int).run pins s σ H Q I ⟨b, e, rfl, rfl, h.1, by show Q (.int (b ^ e.toNat)) H; rw [h.2]; exact q⟩⟩
end
/-! ### sizes -/
structure Sm (n : Nat) (i : Int) : Prop where
  h : i.natAbs < 2 ^ n
theorem sm_lit {i : Int} (h : i.natAbs < 2 ^ 400) : Sm 400 i := ⟨h⟩
theorem sm_mono {a b : Nat} {i : Int} (h : Sm a i) (hab : a ≤ b) : Sm b i := ⟨Nat.lt_of_lt_of_le h.h (Nat.pow_le_pow_right (by decide) hab)⟩
theorem sm41 {i : Int} (h1 : -1000000000000000000000000000000000000000000000000000000000000 ≤ i) (h2 : i ≤ 1000000000000000000000000000000000000000000000000000000000000) : Sm 200 i := by
  have e : (2 : Nat) ^ 200 = 1606938044258990275541962092341162602522202993782792835301376 := by decide
  refine ⟨?_⟩
  rw [e]; omega
theorem mul_bd {x k X Y : Int} (h1 : 1 ≤ x) (h2 : x ≤ X) (h3 : 1 ≤ k) (h4 : k ≤ Y) : 1 ≤ x * k ∧ x * k ≤ X * Y := by
  refine ⟨Int.mul_pos (by omega) (by omega), ?_⟩
  exact Int.mul_le_mul h2 h4 (by omega) (by omega)
theorem mul_bd2 {x k X Y : Int} (h1 : -X ≤ x) (h2 : x ≤ X) (h3 : -Y ≤ k) (h4 : k ≤ Y) : -(X * Y) ≤ x * k ∧ x * k ≤ X * Y := by
  have e : (x * k).natAbs ≤ X.natAbs * Y.natAbs := by rw [Int.natAbs_mul]; exact Nat.mul_le_mul (by omega) (by omega)
  have e2 : ((X.natAbs * Y.natAbs : Nat) : Int) = X * Y := by
    rw [Int.natCast_mul, show ((X.natAbs : Nat) : Int) = X by omega, show ((Y.natAbs : Nat) : Int) = Y by omega]
  omega
theorem sm_mul {i j : Int} {a b : Nat} (ha : Sm a i) (hb : Sm b j) : Sm (a + b) (i * j) := ⟨wide_lt ha.h hb.h⟩
theorem sm_bits {i : Int} {n : Nat} (h : Builtin.Int.intBits i ≤ n) : Sm n i := by
  unfold Builtin.Int.intBits at h
  split at h
  · rename_i z
    have : i = 0 := by simpa using z
    subst this
    exact ⟨Nat.pow_pos (by decide)⟩
  · rename_i z
    have hz : i.natAbs ≠ 0 := by
      intro q
      apply z
      have : i = 0 := by omega
      subst this
      decide
    exact ⟨Nat.lt_of_lt_of_le ((Nat.log2_lt hz).mp (Nat.lt_succ_self _)) (Nat.pow_le_pow_right (by decide) h)⟩
theorem sm_mulx {i j : Int} {a b : Nat} (ha : Sm a i) (hb : Sm b j) (h : a + b ≤ 134217728) : CMulX i j := mulx_ok ha.h hb.h h
theorem modbd {y n B : Int} (hn : 1 ≤ n) (h : n ≤ B) : 0 ≤ y % n ∧ y % n ≤ B := ⟨Int.emod_nonneg _ (by omega), by have := Int.emod_lt_of_pos y (show 0 < n by omega); omega⟩
theorem sm_divx {i j : Int} {b : Nat} (h : j ≠ 0) (hb : Sm b j) (h0 : 0 < b) (h9 : b ≤ 9000) : CDivX i j := ⟨h, Nat.lt_of_lt_of_le (PySem.Flt.log2_lt_of h0 hb.h) h9⟩
theorem sm_div {i j : Int} {b : Nat} (h : 0 < j) (hb : Sm b j) (h0 : 0 < b) (h9 : b ≤ 9000) : CDivW i j := wide_div h hb.h h0 h9
/-! ### range of great numbers -/
theorem turn_rangeL {P : Program} {w : World} {K : PySem.W.Frag} {tg : Expr} (it : Addr) (lo c : Int) (n : Nat) : Turn P w K tg (Itc lo c n) [it] it (fun i h => PySem.IsLongIter h it (lo + (i : Nat) * c) ((n : Int) - (i : Nat)) c) where
  mem := by simp
  obj := fun i h st b hb => by
    have e : b = it := by simpa using hb
    subst e
    exact ⟨_, st, fun v z => nomatch z⟩
  keep := fun i h h' st k => k it (by simp) _ st
  item := by
    intro X hP hw hK hc i pins s σ H E I hf st hg
    subst hP hw hK
    obtain ⟨f0, f1, f2, f3, f4, f5⟩ := hf it (by simp)
    have W := Walks.longrange (prog := X.prog) (w := X.w) (I.ok.hd hc) it lo c n
    refine W.item i s _ _ hg st fun v h' tk hv st' kk => ?_
    obtain ⟨t, rfl⟩ := hv
    have I1 : Inv X pins σ H { s with heap := h', toks := tk } := I.turned (fun b o hb e => kk b o (by simpa using hb) e) f0 f1 f3 f4 f5
    exact ⟨_, rfl, go_of (s := { s with heap := h', toks := tk }) (n := "longrange_iterator") st' rfl rfl (by decide) ⟨.int (lo + (i : Nat) * c), H, I1, ⟨t, rfl⟩, ⟨rfl, rfl⟩, st', fun b hb => (hf b hb).1⟩⟩
  done := by
    intro X hP hw hK hc i pins s σ H E I hf st hg
    subst hP hw hK
    obtain ⟨f0, f1, f2, f3, f4, f5⟩ := hf it (by simp)
    exact PySem.wpAny_pyNext_long_end (I.ok.hd hc) st (by have : n ≤ i := hg; omega) fun h' eb => ⟨rfl, I.turned (t' := s.toks) (fun b o hb e => eb b o hb e) f0 f1 f3 f4 f5⟩
  self := fun A i s Q E st h => PySem.wpAny_pyIter_longiter st h
theorem itc_one (lo : Int) (n : Nat) : Itc lo 1 n = Itr lo n := by
  unfold Itc Itr
  simp only [Int.mul_one]
def Rng2L (vs : List V) (H : Hp) (R : It → Hp → Prop) : Prop := ∃ i j : Int, vs = [.int i, .int j] ∧ R (Itr i (j - i).toNat) H
def iRng2L (ta : TA) : TI := fun σ H R => ta σ H fun vs H1 => Rng2L vs H1 R
theorem pi_range2L {X : Cx} {tg : Expr} {a b : Expr} {ta : TA} {p pos : Pos} (hg : Gl X "range") (hm : X.mg "range" = none) (ha : PA X [a, b] ta) (hs : starEach [a, b] X.env = [(false, eval a X.env), (false, eval b X.env)] := by rfl) (hs2 : starEach [b] X.env = [(false, eval b X.env)] := by rfl) :
    PI X tg (.Call (.Name "range" p) [a, b] [] pos) (iRng2L ta) := by
  refine ⟨fun pins s σ H R I h => ?_⟩
  refine Call_ (ld_blt I hg hm boot_range (PyProof.Rows.callWith_type1 (thn (ha.run pos pins s σ H _ I h) fun us s1 ⟨vs, H1, I1, r1, q1⟩ => ?_) (by rw [hs, hs2]) (by rw [hs2]; rfl)))
  obtain ⟨i, j, e, q⟩ := q1
  subst e
  cases r1 with
  | cons r rr =>
    cases rr with
    | cons r' rr =>
      cases rr
      obtain ⟨t, rfl⟩ := r
      obtain ⟨t', rfl⟩ := r'
      refine PySem.call_range_2 ?_
      have I2 : Inv X pins σ H1 { s1 with heap := s1.heap.push { cls := .type "range", data := .fields #[.int i t, .int j t', .int 1 s1.toks] }, toks := s1.toks + 1 } := I1.kept (t' := s1.toks + 1) fun b o e => Heap.get?_push_of_some _ e
      have e1 : i + ((0 : Nat) : Int) * 1 = i := by simp
      have e2 : (((j - i).toNat : Nat) : Int) - ((0 : Nat) : Int) = Builtin.Range.rangeSize i j 1 := by rw [PyProof.Rows.rangeSize_nat]; simp
      rw [← itc_one] at q
      cases hsm : Builtin.Range.small i j 1 with
      | true =>
        refine wpAny_pyIter_range (IsRange.new ..) hsm ?_
        refine pi_one (tk := s1.toks + 1) I2 _ (turn_rangeC _ i 1 (j - i).toNat) ?_ q
        show IsRangeIter _ _ (i + ((0 : Nat) : Int) * 1) ((((j - i).toNat : Nat) : Int) - ((0 : Nat) : Int)) 1
        rw [e1, e2]
        exact Heap.get?_push_size _ rfl
      | false =>
        refine wpAny_pyIter_longrange (IsRange.new ..) hsm ?_
        refine pi_one (tk := s1.toks + 1) I2 _ (turn_rangeL _ i 1 (j - i).toNat) ?_ q
        show IsLongIter _ _ (i + ((0 : Nat) : Int) * 1) ((((j - i).toNat : Nat) : Int) - ((0 : Nat) : Int)) 1
        rw [e1, e2]
        exact Heap.get?_push_size _ rfl
section
variable {σ : L2.St} {H : Hp} {tr : TA} {m n : Int}
theorem k_irng2L {R : It → Hp → Prop} (h : tr σ H fun vs H1 => Rng2L vs H1 R) : iRng2L tr σ H R := h
theorem k_rng2L {R : It → Hp → Prop} (h : R (Itr m (n - m).toNat) H) : Rng2L [V.int m, V.int n] H R := ⟨m, n, rfl, h⟩
end
theorem b_dec {b : Bool} {p : Prop} [Decidable p] (h : b = true ↔ p) : b = decide p := by
  by_cases hp : p
  · rw [decide_eq_true hp]; exact h.mpr hp
  · rw [decide_eq_false hp]
    cases hb : b with
    | false => rfl
    | true => exact absurd (h.mp hb) hp
/-- a test that something differs, where it does not -/
theorem if_same {p A B : Prop} [Decidable p] (h : p) (h2 : B) : if (!decide p) = true then A else B := if_ndec (fun hn => absurd h hn) (fun _ => h2)
theorem inV3 {a x y z : Int} : inV (.int a) [.int x, .int y, .int z] = decide (a = x ∨ a = y ∨ a = z) := by
  have h := inV_ints (a := a) [x, y, z]
  have e : (decide (a ∈ [x, y, z])) = decide (a = x ∨ a = y ∨ a = z) := by
    have : a ∈ [x, y, z] ↔ (a = x ∨ a = y ∨ a = z) := by simp
    simp [this]
  exact h.trans e
theorem k_in3 {K : PySem.W.Frag} {H : Hp} {Q : VK} {a : Int} {p : Addr} {x y z : Int} (h : SqL K H p [.int x, .int y, .int z]) (q : Q (.bl (decide (a = x ∨ a = y ∨ a = z))) H) : rIn K false (.int a) (.ref p) H Q :=
  ⟨p, _, rfl, .inl h, rfl, rfl, by rw [inV3]; exact q⟩
/-! ### words that are known -/
theorem if_seq {a b : Str} {A B : Prop} (h : a = b) (x : A) : if decide (a = b) = true then A else B := if_dec (fun _ => x) (fun hn => absurd h hn)
theorem if_sne {a b : Str} {A B : Prop} (h : ¬ a = b) (x : B) : if decide (a = b) = true then A else B := if_dec (fun he => absurd he h) (fun _ => x)
theorem if_nseq {a b : Str} {A B : Prop} (h : a = b) (x : B) : if (!decide (a = b)) = true then A else B := if_ndec (fun hn => absurd h hn) (fun _ => x)
theorem if_nsne {a b : Str} {A B : Prop} (h : ¬ a = b) (x : A) : if (!decide (a = b)) = true then A else B := if_ndec (fun _ => x) (fun he => absurd he h)
theorem or_split {t u : TT} {σ : L2.St} {H : Hp} {R : Bool → Hp → Prop} (p : Prop) (hT : p → R true H) (hF : ¬ p → R false H) (h : ∀ R' : Bool → Hp → Prop, (p → R' true H) → (¬ p → R' false H) → tOr t u σ H R') : tOr t u σ H R := h R hT hF

/-! ### remainders: the mathematics -/
theorem gcd_abs (a b : Int) : Int.gcd (if a < 0 then -a else a) (if b < 0 then -b else b) = Int.gcd a b := by
  split <;> split <;> simp
theorem abs_nn (a : Int) : 0 ≤ (if a < 0 then -a else a) := by split <;> omega
theorem abs_le {a b : Int} (h1 : -b ≤ a) (h2 : a ≤ b) : (if a < 0 then -a else a) ≤ b := by split <;> omega
theorem gcd_mod (x y : Int) : Int.gcd y (x % y) = Int.gcd x y := by
  have e : x % y = x - y * (x / y) := Int.emod_def x y
  rw [e, Int.gcd_comm, Int.mul_comm, Int.gcd_sub_mul_right_left]
theorem gcd_zero (x : Int) (h : 0 ≤ x) : ((Int.gcd x 0 : Nat) : Int) = x := by
  rw [Int.gcd_zero_right]; omega
/-- the least common multiple of two numbers from 1 on, as the program reckons it -/
def lcmI (a b : Int) : Int := a / (Int.gcd a b : Nat) * b
theorem gcd_pos {a b : Int} (ha : 1 ≤ a) : 1 ≤ ((Int.gcd a b : Nat) : Int) := by
  have : Int.gcd a b ≠ 0 := fun h => by
    have := Int.gcd_eq_zero_iff.mp h
    omega
  omega
theorem gcd_le {a b : Int} (ha : 1 ≤ a) : ((Int.gcd a b : Nat) : Int) ≤ a := Int.le_of_dvd (by omega) (Int.gcd_dvd_left a b)
theorem gcd_le' {a b : Int} (hb : 1 ≤ b) : ((Int.gcd a b : Nat) : Int) ≤ b := Int.le_of_dvd (by omega) (Int.gcd_dvd_right a b)
theorem lcm_mul_gcd {a b : Int} (ha : 1 ≤ a) : lcmI a b * (Int.gcd a b : Nat) = a * b := by
  have h := Int.ediv_mul_cancel (Int.gcd_dvd_left a b)
  unfold lcmI
  rw [Int.mul_assoc, Int.mul_comm b, ← Int.mul_assoc, h]
theorem lcm_pos {a b : Int} (ha : 1 ≤ a) (hb : 1 ≤ b) : 1 ≤ lcmI a b := by
  have h := lcm_mul_gcd (b := b) ha
  have h1 := gcd_pos (b := b) ha
  have h2 : 0 < a * b := Int.mul_pos (by omega) (by omega)
  rw [← h] at h2
  have := Int.pos_of_mul_pos_left h2 (by omega)
  omega
theorem dvd_lcm_right (a b : Int) : b ∣ lcmI a b := ⟨_, Int.mul_comm _ _⟩
theorem dvd_lcm_left {a b : Int} (ha : 1 ≤ a) : a ∣ lcmI a b := by
  obtain ⟨k, hk⟩ := Int.gcd_dvd_right a b
  have h := lcm_mul_gcd (b := b) ha
  have h1 := gcd_pos (b := b) ha
  refine ⟨k, ?_⟩
  have e : lcmI a b * (Int.gcd a b : Nat) = a * k * (Int.gcd a b : Nat) := by
    rw [h, Int.mul_assoc, Int.mul_comm k, ← hk]
  exact Int.eq_of_mul_eq_mul_right (by omega) e
theorem lcm_comm {a b : Int} (ha : 1 ≤ a) (hb : 1 ≤ b) : lcmI a b = lcmI b a := by
  have h := lcm_mul_gcd (b := b) ha
  have h' := lcm_mul_gcd (b := a) hb
  have h1 := gcd_pos (b := b) ha
  rw [Int.gcd_comm b a, Int.mul_comm b a, ← h] at h'
  exact (Int.eq_of_mul_eq_mul_right (by omega) h').symm
theorem bezout_dvd {a b u v g x : Int} (e : u * a + v * b = g) (ha : x ∣ a) (hb : x ∣ b) : x ∣ g := by
  rw [← e]; exact Int.dvd_add (Int.dvd_mul_of_dvd_right ha) (Int.dvd_mul_of_dvd_right hb)
theorem lcm_least {a b x : Int} (ha : 1 ≤ a) (hb : 1 ≤ b) (h1 : a ∣ x) (h2 : b ∣ x) : lcmI a b ∣ x := by
  -- a * b divides x * gcd
  have hg := gcd_pos (b := b) ha
  have h := lcm_mul_gcd (b := b) ha
  have hd : a * b ∣ x * (Int.gcd a b : Nat) := by
    have e : x * ((Int.gcd a b : Nat) : Int) = ((Int.gcd (x * a) (x * b) : Nat) : Int) ∨ x * ((Int.gcd a b : Nat) : Int) = -((Int.gcd (x * a) (x * b) : Nat) : Int) := by
      rw [Int.gcd_mul_left, Int.natCast_mul]
      rcases Int.natAbs_eq x with hx | hx
      · left; rw [← hx]
      · right
        have : ((x.natAbs : Nat) : Int) = -x := by omega
        rw [this, Int.neg_mul, Int.neg_neg]
    have d1 : a * b ∣ x * a := by rw [Int.mul_comm x a]; exact Int.mul_dvd_mul (Int.dvd_refl a) h2
    have d2 : a * b ∣ x * b := by exact Int.mul_dvd_mul h1 (Int.dvd_refl b)
    have d3 := Int.dvd_coe_gcd d1 d2
    rcases e with e | e
    · rw [e]; exact d3
    · rw [e]; exact Int.dvd_neg.mpr d3
  rw [← h] at hd
  exact Int.dvd_of_mul_dvd_mul_right (by omega) hd
theorem lcm_le_mul {a b : Int} (ha : 1 ≤ a) (hb : 1 ≤ b) : lcmI a b ≤ a * b := by
  have h := lcm_mul_gcd (b := b) ha
  have hg := gcd_pos (b := b) ha
  have hl := lcm_pos ha hb
  have := Int.mul_le_mul_of_nonneg_left hg (show (0 : Int) ≤ lcmI a b by omega)
  omega
/-! ### the equation: one step, and how great its numbers grow -/
theorem eq_rest {r1 r2 : Int} (h : r2 ≠ 0) : (0 < r2 → 0 ≤ r1 - r1.fdiv r2 * r2 ∧ r1 - r1.fdiv r2 * r2 < r2) ∧ (r2 < 0 → r2 < r1 - r1.fdiv r2 * r2 ∧ r1 - r1.fdiv r2 * r2 ≤ 0) := by
  constructor
  · intro h0
    rw [Int.fdiv_eq_ediv_of_nonneg _ (by omega)]
    have e := Int.emod_def r1 r2
    rw [Int.mul_comm] at e
    rw [← e]
    exact ⟨Int.emod_nonneg _ h, Int.emod_lt_of_pos _ h0⟩
  · intro h0
    have e1 : r1.fdiv r2 = (-r1) / (-r2) := by
      rw [← Int.fdiv_eq_ediv_of_nonneg (-r1) (show 0 ≤ -r2 by omega), Int.neg_fdiv_neg]
    have e := Int.emod_def (-r1) (-r2)
    have p1 := Int.emod_nonneg (-r1) (show -r2 ≠ 0 by omega)
    have p2 := Int.emod_lt_of_pos (-r1) (show 0 < -r2 by omega)
    rw [e1]
    have : r1 - (-r1) / (-r2) * r2 = -((-r1) % (-r2)) := by
      rw [e, Int.neg_mul, Int.mul_comm r2]; omega
    rw [this]
    omega
theorem gcd_rest (r1 r2 q : Int) : Int.gcd r2 (r1 - q * r2) = Int.gcd r1 r2 := by
  rw [Int.gcd_comm, Int.gcd_sub_mul_right_left]
/-- the sum of both rests times the quotient is no more than four times the sum ahead -/
theorem eq_quot {r1 r2 : Int} (h : r2 ≠ 0) : (r1.fdiv r2).natAbs * r2.natAbs ≤ r1.natAbs + r2.natAbs := by
  have hr := eq_rest (r1 := r1) h
  rw [← Int.natAbs_mul]
  generalize r1.fdiv r2 * r2 = z at *
  rcases Int.lt_or_gt_of_ne h with h0 | h0
  · have := hr.2 h0; omega
  · have := hr.1 h0; omega
/-- numbers so far are at most M, M times the cube of the rests' sum at most B: it stays so -/
theorem eq_grow {r1 r2 : Int} {M B : Nat} (h : r2 ≠ 0) (hs : (0 < r1 ∧ 0 < r2) ∨ (r1 < 0 ∧ r2 < 0)) (hlt : r2.natAbs < r1.natAbs)
    (hB : M * (r1.natAbs + r2.natAbs) ^ 3 ≤ B) : (M * (1 + (r1.fdiv r2).natAbs)) * (r2.natAbs + (r1 - r1.fdiv r2 * r2).natAbs) ^ 3 ≤ B := by
  have hr := eq_rest (r1 := r1) h
  have key : (r1.fdiv r2).natAbs * r2.natAbs + (r1 - r1.fdiv r2 * r2).natAbs = r1.natAbs ∧ 1 ≤ (r1.fdiv r2).natAbs := by
    have e := Int.natAbs_mul (r1.fdiv r2) r2
    rw [← e]
    have q1 : r1.fdiv r2 ≠ 0 := by
      intro z
      rw [z, Int.zero_mul] at hr
      omega
    refine ⟨?_, by omega⟩
    have hq : 0 ≤ r1.fdiv r2 * r2 ∧ 0 < r2 ∨ r1.fdiv r2 * r2 ≤ 0 ∧ r2 < 0 := by
      rcases hs with hs | hs
      · left; refine ⟨?_, hs.2⟩
        have := hr.1 hs.2
        rw [Int.fdiv_eq_ediv_of_nonneg _ (by omega)]
        exact Int.mul_nonneg (Int.ediv_nonneg (by omega) (by omega)) (by omega)
      · right; refine ⟨?_, hs.2⟩
        have e1 : r1.fdiv r2 = (-r1) / (-r2) := by
          rw [← Int.fdiv_eq_ediv_of_nonneg (-r1) (show 0 ≤ -r2 by omega), Int.neg_fdiv_neg]
        rw [e1]
        exact Int.mul_nonpos_of_nonneg_of_nonpos (Int.ediv_nonneg (by omega) (by omega)) (by omega)
    generalize r1.fdiv r2 * r2 = z at *
    rcases hs with hs | hs
    · have := hr.1 hs.2; omega
    · have := hr.2 hs.2; omega
  have h3 : (r1 - r1.fdiv r2 * r2).natAbs < r2.natAbs := by
    generalize r1.fdiv r2 * r2 = z at *
    rcases hs with hs | hs
    · have := hr.1 hs.2; omega
    · have := hr.2 hs.2; omega
  generalize (r1 - r1.fdiv r2 * r2).natAbs = c at *
  generalize (r1.fdiv r2).natAbs = q at *
  generalize r2.natAbs = b at *
  generalize r1.natAbs = a at *
  obtain ⟨k1, k2⟩ := key
  -- S = a + b, S' = b + c; S' (1 + q) ≤ 2 S ; 3 S' ≤ 2 S
  have t1 : (b + c) * (1 + q) ≤ 2 * (a + b) := by
    have : (b + c) * (1 + q) ≤ (2 * b) * (1 + q) := Nat.mul_le_mul_right _ (by omega)
    have e : (2 * b) * (1 + q) = 2 * b + 2 * (q * b) := by rw [Nat.mul_add, Nat.mul_one, Nat.mul_assoc, Nat.mul_comm b q]
    omega
  have t2 : 3 * (b + c) ≤ 2 * (a + b) := by
    have : b ≤ q * b := Nat.le_mul_of_pos_left _ k2
    omega
  have t3 : (3 * (b + c)) * (3 * (b + c)) ≤ (2 * (a + b)) * (2 * (a + b)) := Nat.mul_le_mul t2 t2
  generalize a + b = S at *
  generalize b + c = S' at *
  have t4 : (M * (1 + q) * S') ≤ M * (2 * S) := by
    rw [Nat.mul_assoc, Nat.mul_comm (1 + q)]; exact Nat.mul_le_mul_left _ t1
  have t5 : (M * (1 + q) * S') * ((3 * S') * (3 * S')) ≤ (M * (2 * S)) * ((2 * S) * (2 * S)) := Nat.mul_le_mul t4 t3
  have e1 : (M * (1 + q) * S') * ((3 * S') * (3 * S')) = 9 * (M * (1 + q) * S' ^ 3) := by
    simp only [Nat.pow_succ, Nat.pow_zero, Nat.one_mul]; simp only [Nat.mul_assoc, Nat.mul_comm, Nat.mul_left_comm]
  have e2 : (M * (2 * S)) * ((2 * S) * (2 * S)) = 8 * (M * S ^ 3) := by
    simp only [Nat.pow_succ, Nat.pow_zero, Nat.one_mul]; simp only [Nat.mul_assoc, Nat.mul_comm, Nat.mul_left_comm]
  rw [e1, e2] at t5
  omega
/-- between two turns of the equation, behind the first one -/
structure Later (B : Nat) (u1 v1 r1 u2 v2 r2 : Int) : Prop where
  sg : (0 < r1 ∧ 0 < r2) ∨ (r1 < 0 ∧ r2 < 0) ∨ (r2 = 0 ∧ r1 ≠ 0)
  lt : r2.natAbs < r1.natAbs
  bd : ∃ M : Nat, u1.natAbs ≤ M ∧ v1.natAbs ≤ M ∧ u2.natAbs ≤ M ∧ v2.natAbs ≤ M ∧ M * (r1.natAbs + r2.natAbs) ^ 3 ≤ B
theorem Later.le {B : Nat} {u1 v1 r1 u2 v2 r2 : Int} (h : Later B u1 v1 r1 u2 v2 r2) : u1.natAbs ≤ B ∧ v1.natAbs ≤ B ∧ u2.natAbs ≤ B ∧ v2.natAbs ≤ B := by
  obtain ⟨M, a1, a2, a3, a4, hM⟩ := h.bd
  have hp : 0 < (r1.natAbs + r2.natAbs) ^ 3 := Nat.pow_pos (by have := h.lt; omega)
  have : M ≤ B := Nat.le_trans (Nat.le_mul_of_pos_right M hp) hM
  omega
theorem mul_sub_abs {u1 u2 q : Int} {M : Nat} (h1 : u1.natAbs ≤ M) (h2 : u2.natAbs ≤ M) : (u1 - q * u2).natAbs ≤ M * (1 + q.natAbs) := by
  have e : (q * u2).natAbs ≤ M * q.natAbs := by rw [Int.natAbs_mul, Nat.mul_comm]; exact Nat.mul_le_mul_right _ h2
  rw [Nat.mul_add, Nat.mul_one]
  omega
theorem Later.step {B : Nat} {u1 v1 r1 u2 v2 r2 : Int} (h : Later B u1 v1 r1 u2 v2 r2) (h0 : r2 ≠ 0) :
    Later B u2 v2 r2 (u1 - r1.fdiv r2 * u2) (v1 - r1.fdiv r2 * v2) (r1 - r1.fdiv r2 * r2) := by
  obtain ⟨M, a1, a2, a3, a4, hM⟩ := h.bd
  have hs : (0 < r1 ∧ 0 < r2) ∨ (r1 < 0 ∧ r2 < 0) := by have := h.sg; omega
  have hr := eq_rest (r1 := r1) h0
  refine ⟨?_, ?_, ⟨M * (1 + (r1.fdiv r2).natAbs), ?_, ?_, mul_sub_abs a1 a3, mul_sub_abs a2 a4, eq_grow h0 hs h.lt hM⟩⟩
  · generalize r1 - r1.fdiv r2 * r2 = z at *
    rcases hs with hs | hs
    · have := hr.1 hs.2; omega
    · have := hr.2 hs.2; omega
  · generalize r1 - r1.fdiv r2 * r2 = z at *
    rcases hs with hs | hs
    · have := hr.1 hs.2; omega
    · have := hr.2 hs.2; omega
  · exact Nat.le_trans a3 (Nat.le_mul_of_pos_right M (by omega))
  · exact Nat.le_trans a4 (Nat.le_mul_of_pos_right M (by omega))
theorem Later.first {a b : Int} {n : Nat} (ha : a.natAbs ≤ 2 ^ n) (hb : b.natAbs ≤ 2 ^ n) (h0 : b ≠ 0) :
    Later (2 ^ (4 * n + 6)) 0 1 b (1 - a.fdiv b * 0) (0 - a.fdiv b * 1) (a - a.fdiv b * b) := by
  have hr := eq_rest (r1 := a) h0
  have hq := eq_quot (r1 := a) h0
  have h1 : (a.fdiv b).natAbs ≤ 2 ^ n + 2 ^ n := by
    have : (a.fdiv b).natAbs * 1 ≤ (a.fdiv b).natAbs * b.natAbs := Nat.mul_le_mul_left _ (by omega)
    omega
  refine ⟨?_, ?_, ⟨1 + (a.fdiv b).natAbs, by omega, by omega, ?_, ?_, ?_⟩⟩
  · generalize a - a.fdiv b * b = z at *
    rcases Int.lt_or_gt_of_ne h0 with h | h
    · have := hr.2 h; omega
    · have := hr.1 h; omega
  · generalize a - a.fdiv b * b = z at *
    rcases Int.lt_or_gt_of_ne h0 with h | h
    · have := hr.2 h; omega
    · have := hr.1 h; omega
  · rw [Int.mul_zero]; omega
  · rw [Int.mul_one]; omega
  · have h2 : b.natAbs + (a - a.fdiv b * b).natAbs ≤ 2 * 2 ^ n := by
      generalize a - a.fdiv b * b = z at *
      rcases Int.lt_or_gt_of_ne h0 with h | h
      · have := hr.2 h; omega
      · have := hr.1 h; omega
    have hp : 1 ≤ 2 ^ n := Nat.pow_pos (by decide)
    have h3 : 1 + (a.fdiv b).natAbs ≤ 2 ^ (n + 2) := by rw [Nat.pow_add]; omega
    have h4 : (b.natAbs + (a - a.fdiv b * b).natAbs) ^ 3 ≤ (2 ^ (n + 1)) ^ 3 := Nat.pow_le_pow_left (by rw [Nat.pow_add]; omega) 3
    have h5 := Nat.mul_le_mul h3 h4
    rw [← Nat.pow_mul, ← Nat.pow_add] at h5
    exact Nat.le_trans h5 (Nat.pow_le_pow_right (by decide) (by omega))
theorem fdiv_abs_le {r1 r2 : Int} (h : r2 ≠ 0) : (r1.fdiv r2).natAbs ≤ r1.natAbs + r2.natAbs := by
  have hq := eq_quot (r1 := r1) h
  have : (r1.fdiv r2).natAbs * 1 ≤ (r1.fdiv r2).natAbs * r2.natAbs := Nat.mul_le_mul_left _ (by omega)
  omega
theorem rest_lt {r1 r2 : Int} (h : r2 ≠ 0) : (r1 - r1.fdiv r2 * r2).natAbs < r2.natAbs := by
  have hr := eq_rest (r1 := r1) h
  generalize r1 - r1.fdiv r2 * r2 = z at *
  rcases Int.lt_or_gt_of_ne h with h | h
  · have := hr.2 h; omega
  · have := hr.1 h; omega
theorem bez_step {a b u1 v1 r1 u2 v2 r2 q : Int} (h1 : u1 * a + v1 * b = r1) (h2 : u2 * a + v2 * b = r2) : (u1 - q * u2) * a + (v1 - q * v2) * b = r1 - q * r2 := by
  rw [← h1, ← h2, Int.sub_mul, Int.sub_mul, Int.mul_add, Int.mul_assoc, Int.mul_assoc]
  omega
theorem met_ok {n m r s u v : Int} (hn : 1 ≤ n) (hm : 1 ≤ m) (hb : u * n + v * m = (Int.gcd n m : Nat)) (hd : (s - r) % (Int.gcd n m : Nat) = 0) :
    n ∣ (r + n * u * ((s - r) / (Int.gcd n m : Nat))) % lcmI n m - r ∧ m ∣ (r + n * u * ((s - r) / (Int.gcd n m : Nat))) % lcmI n m - s := by
  have hg := gcd_pos (b := m) hn
  have hk : (Int.gcd n m : Nat) * ((s - r) / (Int.gcd n m : Nat)) = s - r := by
    have := Int.emod_add_mul_ediv (s - r) (Int.gcd n m : Nat)
    omega
  generalize ((Int.gcd n m : Nat) : Int) = g at *
  generalize (s - r) / g = k at *
  have hL1 := dvd_lcm_left (b := m) hn
  have hL2 := dvd_lcm_right n m
  have e := Int.emod_def (r + n * u * k) (lcmI n m)
  rw [e]
  generalize (r + n * u * k) / lcmI n m = z
  constructor
  · have : r + n * u * k - lcmI n m * z - r = n * (u * k) - lcmI n m * z := by rw [Int.mul_assoc]; omega
    rw [this]
    exact Int.dvd_sub (Int.dvd_mul_right _ _) (Int.dvd_mul_of_dvd_left hL1)
  · have h2 : n * u * k = g * k - m * (v * k) := by
      have : n * u = g - m * v := by rw [← hb, Int.mul_comm u n, Int.mul_comm v m]; omega
      rw [this, Int.sub_mul, Int.mul_assoc]
    have : r + n * u * k - lcmI n m * z - s = -(m * (v * k)) - lcmI n m * z := by omega
    rw [this]
    exact Int.dvd_sub (Int.dvd_neg.mpr (Int.dvd_mul_right _ _)) (Int.dvd_mul_of_dvd_left hL2)
theorem alike_both {n m r s x d : Int} (hn : 1 ≤ n) (hm : 1 ≤ m) (h1 : n ∣ x - r) (h2 : m ∣ x - s) : ((d - r) % n = 0 ∧ (d - s) % m = 0) ↔ (d - x) % lcmI n m = 0 := by
  constructor
  · rintro ⟨a1, a2⟩
    have b1 := Int.dvd_of_emod_eq_zero a1
    have b2 := Int.dvd_of_emod_eq_zero a2
    refine Int.emod_eq_zero_of_dvd (lcm_least hn hm ?_ ?_)
    · have := Int.dvd_sub b1 h1; rwa [show d - r - (x - r) = d - x by omega] at this
    · have := Int.dvd_sub b2 h2; rwa [show d - s - (x - s) = d - x by omega] at this
  · intro a
    have b := Int.dvd_of_emod_eq_zero a
    refine ⟨Int.emod_eq_zero_of_dvd ?_, Int.emod_eq_zero_of_dvd ?_⟩
    · have := Int.dvd_add (Int.dvd_trans (dvd_lcm_left hn) b) h1; rwa [show d - x + (x - r) = d - r by omega] at this
    · have := Int.dvd_add (Int.dvd_trans (dvd_lcm_right n m) b) h2; rwa [show d - x + (x - s) = d - s by omega] at this

/-! ### a caught exception, handed on to a def -/
/-! a def called in the suite that caught p: p's object is pinned while it runs -/
structure FnP (P : Program) (w : World) (K : PySem.W.Frag) (mg : Str → Option Value) (base : Heap) (CX : CXT) (k : Nat) (f : Addr) (fd : FuncData) (ps : List Str) (sp : Addr × Obj → Sp) : Prop where
  len : ∀ p vs H Q E, sp p vs H Q E → vs.length = ps.length
  run : ∀ (A : Around) (outer : List Env) (s : Shared) (H : Hp) (args : Args) (us : List Value) (vs : List V) (Q : VK) (E : XK) (p : Addr × Obj), L2H.RoomH k A → L2H.PinOk outer H s p → Env0 P w K mg base A outer s H → BindsTo s fd args (ps.zip us) → Vals vs us → sp p vs H Q E →
    codeAny (model P w) A (.call (.ref f) args) (CR CX outer P w H s Q E) s
theorem fn_ofP {CX : CXT} {P : Program} {w : World} {K : PySem.W.Frag} {mg : Str → Option Value} {base : Heap} {k : Nat} {f : Addr} {name qual : Str} {params : Arguments} {body : List Stmt} {scope : Scope} {dV kV doc pm cdv ct oc : Value} {an od : Option Addr}
    {osl : Array (Option Value)} {N ps : List Str} {sp : Addr × Obj → Sp} (lk : K.lookup f = some ⟨oc, od, .func (PySem.W.fnOf name qual params body scope dV kV doc pm an cdv ct), osl⟩) (hcd : PySem.W.codeIn K cdv qual = true) (S : FnScope N ps scope)
    (len : ∀ p vs H Q E, sp p vs H Q E → vs.length = ps.length)
    (hbody : ∀ (A : Around) (outer : List Env) (s : Shared) (H : Hp) (vs : List V) (Q : VK) (E : XK) (p : Addr × Obj), L2H.RoomH k (A.deeper (envOfC qual scope s.heap.objs.size f cdv)) → sp p vs H Q E →
      ∃ t, PSs (L2H.cxH CX P w K mg base N qual scope f cdv A outer s H E p) body t ∧ t { nx := fun _ H' => Q .non H', rt := Q } (L2.start N vs) H) :
    FnP P w K mg base CX (k + 1) f (PySem.W.fnOf name qual params body scope dV kV doc pm an cdv ct) ps sp := by
  refine ⟨len, fun A outer s H args us vs Q E p hr hpin e0 hb r hsp => ?_⟩
  have hl := len _ _ _ _ _ hsp
  have KX : K.In s.heap := e0.mod.kin.keeps fun b o e => (e0.bs b o e).1
  have lim : s.heap.NoLimit := e0.mod.nolimit.keeps fun b o e => (e0.bs b o e).1
  have hkind : ∀ y ∈ ps.zip us, scope.names.lookup y.1 = some .local ∨ (scope.names.lookup y.1 = some .cell ∧ ((cellsFrom (s.heap.objs.size + 1) scope.names []).lookup y.1).isSome = true) := fun ⟨n, v⟩ hy => by
    rcases S.par n (List.of_mem_zip hy).1 with q | q
    · exact .inl q
    · exact .inr ⟨q, PySem.W.cellsFrom_some _ _ _ (.inl q)⟩
  refine codeAny_call_function hr.depth (KX _ _ lk) rfl S.co S.gen rfl (PySem.W.codeRec_of KX hcd) (hb _ _ _ _ ?_)
  refine wpAny_newFunctionEnv_cells S.kind hkind fun env he s1 x => ?_
  subst he
  refine ⟨lim.keeps x.toInCall.keep, codeAny_func ?_⟩
  obtain ⟨t, ht, hq⟩ := hbody A outer s H vs Q E p (hr.deeper _) hsp
  have I : Inv (L2H.cxH CX P w K mg base N qual scope f cdv A outer s H E p) [] (L2.start N vs) H s1 := L2H.inv_startH S hpin e0 hl r x
  refine wpAny_mono (ht.run [] s1 (L2.start N vs) H _ I hq) (fun fl s' hs => ?_) fun e s' hs => hs
  have fin : ∀ {σ' : L2.St} {H' : Hp} {v : V} {u : Value}, Inv (L2H.cxH CX P w K mg base N qual scope f cdv A outer s H E p) [] σ' H' s' → RelV v u → Q v H' → CE outer P w H s Q u s' :=
    fun {σ' H' v u} J rv q => ⟨v, H', J.os, J.bare, J.base, J.hok, rv, q⟩
  cases fl with
  | ret u =>
    obtain ⟨v, σ', H', J, rv, q⟩ := hs
    exact fin J rv q
  | next =>
    obtain ⟨σ', H', J, q⟩ := hs
    exact fin (v := V.non) (u := Value.none) J rfl q
  | brk =>
    obtain ⟨_, _, _, q⟩ := hs
    exact False.elim q
  | cont =>
    obtain ⟨_, _, _, q⟩ := hs
    exact False.elim q
theorem Fun.okP {P : Program} {w : World} {K : PySem.W.Frag} {mg : Str → Option Value} {base : Heap} {x qual : Str} {st : Stmt} {f : Addr} {fd : FuncData} {N ps : List Str} {k : Nat} {sp : Addr × Obj → Sp} (F : Fun K x qual st f fd) (S : FnScope N ps (defScope st)) (len : ∀ p vs H Q E, sp p vs H Q E → vs.length = ps.length)
    (hbody : ∀ (cdv : Value) (A : Around) (outer : List Env) (s : Shared) (H : Hp) (vs : List V) (Q : VK) (E : XK) (p : Addr × Obj), L2H.RoomH k (A.deeper (envOfC qual (defScope st) s.heap.objs.size f cdv)) → sp p vs H Q E →
      ∃ t, PSs (L2H.cxH CX0 P w K mg base N qual (defScope st) f cdv A outer s H E p) (defBody st) t ∧ t { nx := fun _ H' => Q .non H', rt := Q } (L2.start N vs) H) : FnP P w K mg base CX0 (k + 1) f fd ps sp := by
  obtain ⟨oc, od, kV, doc, pm, an, cdv, ct, osl, rfl, lk, hcd⟩ := F.ex
  exact fn_ofP lk hcd S len fun A outer s H vs Q E p hr hsp => hbody cdv A outer s H vs Q E p hr hsp
section
variable {X : Cx} {CX : CXT} {k : Nat} {f a : Addr} {fd : FuncData} {ps : List Str} {sp : Addr × Obj → Sp} {x : Str} {p pos : Pos} {e : Expr} {es : List Expr} {t : TA} {oe : Obj} {pn : List (Addr × Obj)}
/-- f(.., err, ..) in an except suite: the exception is pinned while the callee runs -/
def tCallV (a : Addr) (cls : Value) (d : Option Addr) (sp : Addr × Obj → Sp) (t : TA) : TE := fun σ H Q => t σ H fun vs H1 =>
  ∀ oe : Obj, Zc cls d oe → (∃ u, oe.data = .fields u) → sp (a, oe) vs H1 Q (fun _ _ _ => False)
theorem pe_callV {cls : Value} {d : Option Addr} (hz : Zc cls d oe) (hf : ∃ u, oe.data = .fields u) (F : FnP X.prog X.w X.K X.mg X.base CX k f fd ps sp) (hr : Room k X.A) (hg : Gl X x) (hm : X.mg x = some (.ref f)) (hk : PySem.W.keepIn X.K (.ref f) = true) (hb : Binds X.K fd ps [])
    (hx : ∀ (l : List Env) (H : Hp) (s : Shared) (e : Value) (s' : Shared), ¬ CX l H s (fun _ _ _ => False) e s')
    (ha : PA (X.suite a ((a, oe) :: pn)) (e :: es) t) (hdb : (x == ("__debug__" : Str)) = false := by decide) (he : starEach (e :: es) X.env = (false, eval e X.env) :: starEach es X.env := by rfl) (hpl : (backTo pos (starEach es X.env)).any (·.1) = false := by rfl) :
    PE (X.suite a ((a, oe) :: pn)) (.Call (.Name x p) (e :: es) [] pos) (tCallV a cls d sp t) := by
  refine ⟨fun pins s σ H Q I h => ?_⟩
  refine wpAny_Call_Name_kw (ld_glob I hg hm ?_ hdb)
  refine PySem.W.callWith_K (h₀ := X.base) I.ok.mod.kin hk (thn (ha.run pos pins s σ H _ I h) fun us s1 ⟨vs, H1, I1, r, q⟩ => ⟨I1.kIn, ?_⟩) he hpl
  have q := q oe hz hf
  have P1 := I1.pin (a, oe) (List.mem_append_left _ List.mem_cons_self)
  have hpin : L2H.PinOk X.stack H1 s1 (a, oe) := ⟨P1.1, P1.2.1, fun hm => (List.mem_cons.mp (I1.stkSub a hm)).elim P1.2.2.1 P1.2.2.2.1, P1.2.2.2.2⟩
  have hl : us.length = ps.length := by rw [← r.length]; exact F.len _ _ _ _ _ q
  have b := hb s1 us I1.kIn (by rw [List.append_nil]; exact hl)
  rw [List.append_nil] at b
  refine wpAny_call (codeAny_mono (F.run _ X.stack s1 H1 ⟨us, []⟩ us vs Q (fun _ _ _ => False) (a, oe) ⟨hr.dp, hr.un⟩ hpin I1.env0 b r q) fun r s' hq => ?_)
  cases r with
  | error e => exact absurd hq (hx _ _ _ _ _)
  | ok fl =>
    cases fl with
    | ret u => exact I1.after hq
    | next => exact False.elim hq
    | brk => exact False.elim hq
    | cont => exact False.elim hq
/-- where the dict of the exception stands -/
def DOk (H : Hp) (d : Option Addr) : Prop := d = none ∨ ∃ (dd : Addr) (fs : List (Str × V)), d = some dd ∧ H dd = some (.xd fs)
theorem inst_exc {X : Cx} {pins : List (Addr × Obj)} {σ : L2.St} {H : Hp} {s : Shared} {a D : Addr} {d : Option Addr} {oe : Obj} (I : Inv X pins σ H s) (hget : s.heap.get? a = some oe) (hz : Zc (.ref D) d oe) (hf : ∃ vs, oe.data = .fields vs) (hd : DOk H d) :
    ∃ od, PySem.W.InstAt s.heap a oe D od := by
  obtain ⟨vs, hv⟩ := hf
  have hno : PySem.W.notCls oe = true := by unfold PySem.W.notCls; rw [hv] <;> rfl
  rcases hd with rfl | ⟨dd, fs, rfl, ea⟩
  · exact ⟨none, hget, hz.1, hno, by rw [hz.2]; exact trivial⟩
  · have hx : ObjOk X.prog X.w H s.heap dd (.xd fs) := I.hok dd _ ea
    obtain ⟨mA, hns, _⟩ := hx
    obtain ⟨od, ho, _⟩ := lookIn_ns hns
    exact ⟨some od, hget, hz.1, hno, by rw [hz.2]; exact ho⟩
theorem isinst_exc {X : Cx} {pins : List (Addr × Obj)} {σ : L2.St} {H : Hp} {s : Shared} {a D : Addr} {d : Option Addr} {oe : Obj} {cv : Value} {b : Bool} {Q : VK} (I : Inv X pins σ H s) (hget : s.heap.get? a = some oe) (hz : Zc (.ref D) d oe) (hf : ∃ vs, oe.data = .fields vs) (hd : DOk H d) (C : ExcC X.K D)
    (e : PySem.W.kitOne X.K (.ref D) cv = some b) (q : Q (.bl b) H) : wpAny (model X.prog X.w) X.A (call (.builtin "isinstance") [.ref a, cv]) (EP X pins σ Q) X.xe s := by
  obtain ⟨od, J⟩ := inst_exc I hget hz hf hd
  refine PySem.W.kia_one (PySem.W.kitx_exc ?_ C.hg C.hk C.hs C.ha C.hn C.ht C.hm) I.kIn J e (fun z => nomatch z) fun tk => ⟨.bl b, H, I.kept (t' := tk) fun _ _ z => z, rfl, q⟩
  obtain ⟨cd, hc, _⟩ := PySem.W.any_some C.hd
  rw [hc]; rfl
/-- isinstance(e, c), e the caught exception p, in a def that was called in its suite -/
def rIsV (K : PySem.W.Frag) (p : Addr × Obj) : List V → Hp → VK → Prop := fun xs H Q => ∃ (D : Addr) (d : Option Addr) (c : V) (cv : Value) (b : Bool), xs = [.ref p.1, c] ∧ ExcC K D ∧ Zc (.ref D) d p.2 ∧ DOk H d ∧ (∃ vs, p.2.data = .fields vs) ∧ (∀ u, RelV c u → u = cv) ∧ PySem.W.kitOne K (.ref D) cv = some b ∧ Q (.bl b) H
theorem call_isV {X : Cx} {p : Addr × Obj} (hp : X.pn = [p]) : CallR X (.builtin "isinstance") (rIsV X.K p) := by
  intro pins s σ H xs us Q I r h
  obtain ⟨D, d, c, cv, b, rfl, C, hz, hd, hf, hcv, e, q⟩ := h
  cases r with
  | cons rx rr =>
    cases rr with
    | cons rt rr =>
      cases rr
      cases rx
      have ec := hcv _ rt
      subst ec
      exact isinst_exc I (I.pin p (List.mem_append_left _ (by rw [hp]; exact List.mem_cons_self))).1 hz hf hd C e q
/-- isinstance(e, c) in the suite that caught e -/
def rIsC (K : PySem.W.Frag) (a : Addr) (cls : Value) (d : Option Addr) : List V → Hp → VK → Prop := fun xs H Q => ∃ (D : Addr) (c : V) (cv : Value) (b : Bool), cls = .ref D ∧ xs = [.ref a, c] ∧ ExcC K D ∧ DOk H d ∧ (∀ u, RelV c u → u = cv) ∧ PySem.W.kitOne K (.ref D) cv = some b ∧ Q (.bl b) H
theorem call_isC {X : Cx} {a : Addr} {oe : Obj} {pn : List (Addr × Obj)} {cls : Value} {d : Option Addr} (hz : Zc cls d oe) (hf : ∃ vs, oe.data = .fields vs) : CallR (X.suite a ((a, oe) :: pn)) (.builtin "isinstance") (rIsC X.K a cls d) := by
  intro pins s σ H xs us Q I r h
  obtain ⟨D, c, cv, b, rfl, rfl, C, hd, hcv, e, q⟩ := h
  cases r with
  | cons rx rr =>
    cases rr with
    | cons rt rr =>
      cases rr
      cases rx
      have ec := hcv _ rt
      subst ec
      obtain ⟨hget, _⟩ := I.pin (a, oe) (List.mem_append.mpr (.inl List.mem_cons_self))
      exact isinst_exc I hget hz hf hd C e q
end
/-- an error of the class at D, asked of the class at C: an except clause, isinstance -/
theorem exm_of {K : PySem.W.Frag} {D C : Addr} {b : Bool} (h1 : PySem.W.subIn K (.ref C) (.type "BaseException") = some true) (h2 : PySem.W.isClsIn K C = true) (h3 : PySem.W.typeIn K (.ref C) = some (.type "type")) (h4 : PySem.W.subIn K (.ref D) (.ref C) = some b) :
    PySem.W.exmOne K (.ref D) (.ref C) = some b := by
  have e1 : (PySem.W.subIn K (.ref C) (.type "BaseException") == some true) = true := by rw [h1] <;> rfl
  have e2 : ((PySem.W.clsIn K C).isSome && PySem.W.typeIn K (.ref C) == some (.type "type")) = true := by
    have h2' : (PySem.W.clsIn K C).isSome = true := h2
    rw [h2', h3] <;> rfl
  show (if (PySem.W.subIn K (.ref C) (.type "BaseException") == some true) = true then (if ((PySem.W.clsIn K C).isSome && PySem.W.typeIn K (.ref C) == some (.type "type")) = true then PySem.W.subIn K (.ref D) (.ref C) else none) else none) = some b
  rw [if_pos e1, if_pos e2]
  exact h4
theorem kit_of {K : PySem.W.Frag} {D C : Addr} {b : Bool} (h2 : PySem.W.isClsIn K C = true) (h3 : PySem.W.typeIn K (.ref C) = some (.type "type")) (hs : PySem.W.subIn K (.ref C) (.ref C) = some true) (h4 : PySem.W.subIn K (.ref D) (.ref C) = some b) :
    PySem.W.kitOne K (.ref D) (.ref C) = some b := by
  unfold PySem.W.kitOne
  by_cases e : D = C
  · subst e
    rw [hs] at h4
    rw [if_pos (by simp)]
    exact h4
  · rw [if_neg (by simpa using e)]
    have e2 : ((PySem.W.clsIn K C).isSome && PySem.W.typeIn K (.ref C) == some (.type "type")) = true := by
      have h2' : (PySem.W.clsIn K C).isSome = true := h2
      rw [h2', h3] <;> rfl
    show (if ((PySem.W.clsIn K C).isSome && PySem.W.typeIn K (.ref C) == some (.type "type")) = true then PySem.W.subIn K (.ref D) (.ref C) else none) = some b
    rw [if_pos e2]
    exact h4
theorem kit_ve {K : PySem.W.Frag} {D : Addr} {b : Bool} (h : PySem.W.subIn K (.ref D) (.type "ValueError") = some b) : PySem.W.kitOne K (.ref D) (.type "ValueError") = some b := by
  unfold PySem.W.kitOne
  rw [if_neg (by simp)]
  show (if PySem.W.kitMeta "ValueError" = true then PySem.W.subIn K (.ref D) (.type "ValueError") else none) = some b
  rw [if_pos (by decide +kernel)]
  exact h

/-! ### the walker: one step, by the head of the reading -/
local macro_rules | `(tactic| walk_at "hp") => `(tactic| first | assumption | (refine' same_t ?h1 ?h2; (case h1 => assumption); (case h2 => walk_at "hp")) | (refine' same_l ?h1 ?h2; (case h1 => assumption); (case h2 => walk_at "hp")) | (refine' same_at ?h1 ?h2; (case h1 => assumption); (case h2 => walk_at "hp")) | fail)
local macro_rules | `(tactic| walk_at "hl") => `(tactic| first | walk_at "hp" | (refine' SqL.of ?h1; (case h1 => walk_at "hp")) | fail)
local macro_rules | `(tactic| walk_at "ht") => `(tactic| first | walk_at "hp" | (refine' SqT.of ?h1; (case h1 => walk_at "hp")) | fail)
local macro_rules | `(tactic| walk_at "sm") => `(tactic| first | assumption | (refine' sm_lit ?h1; (case h1 => decide +kernel)) | exact sm41 (by omega) (by omega) | walk_at "smx" | (refine' sm_mul ?h1 ?h2; (case h1 => walk_at "sm"); (case h2 => walk_at "sm")) | fail)
local macro_rules | `(tactic| walk_at "sd") => `(tactic| first
  | omega
  | decide +kernel
  | ((with_reducible apply Int.emod_nonneg); omega)
  | ((with_reducible refine sm_divx (b := 200) ?_ ?_ (by decide) (by decide)) <;> first | omega | walk_at "sm")
  | ((with_reducible refine sm_div (b := 200) ?_ ?_ (by decide) (by decide)) <;> first | omega | walk_at "sm")
  | walk_at "sdx"
  | ((with_reducible refine' sm_mulx ?h1 ?h2 ?h3); (case h1 => walk_at "sm"); (case h2 => walk_at "sm"); (case h3 => decide +kernel)) | fail)
local macro_rules | `(tactic| walk_at "st") => `(tactic| first
  | (with_reducible apply k_seqA)
  | (with_reducible apply k_seqD)
  | (with_reducible apply k_seqP)
  | ((with_reducible apply k_var); (· rfl))
  | (with_reducible apply k_c)
  | (with_reducible apply k_op)
  | (with_reducible apply k_add)
  | (with_reducible apply k_I0)
  | (with_reducible apply k_asg)
  | (with_reducible apply k_call)
  | (with_reducible apply k_cb)
  | (with_reducible apply k_cons)
  | (with_reducible apply k_nil)
  | (with_reducible apply k_ret)
  | (with_reducible apply k_test)
  | (with_reducible apply k_eq)
  | (with_reducible apply k_ne)
  | (with_reducible apply k_bl)
  | ((with_reducible apply k_I); (· walk_at "sd"))
  | (with_reducible apply k_U)
  | (with_reducible apply k_un)
  | ((with_reducible apply k_ixT); (· walk_at "ht"); (· rfl))
  | ((with_reducible apply k_ixL); (· walk_at "hl"); (· rfl))
  | (with_reducible apply k_tup)
  | ((with_reducible apply k_newtup); (· exact Nat.le_of_ble_eq_true rfl); intro p H' hn hs ht)
  | (with_reducible apply k_lst)
  | ((with_reducible apply k_newlst); (· exact Nat.le_of_ble_eq_true rfl); intro p H' hn hs ht)
  | (with_reducible apply k_B)
  | (with_reducible apply k_and)
  | (with_reducible apply k_or)
  | (with_reducible apply k_not)
  | ((with_reducible apply k_and2); (· rfl); (· rfl))
  | ((with_reducible apply k_or2); (· rfl); (· rfl))
  | ((with_reducible apply k_andn2); (· rfl); (· rfl))
  | (with_reducible apply k_andV)
  | (with_reducible apply k_orV)
  | (with_reducible apply k_notV)
  | (with_reducible apply k_chain)
  | (with_reducible apply k_eqb)
  | (with_reducible apply k_neb)
  | (with_reducible apply k_eqs)
  | (with_reducible apply k_nes)
  | (with_reducible apply k_drop)
  | (with_reducible apply k_next)
  | (with_reducible apply if_t)
  | (with_reducible apply if_f)
  | (with_reducible apply if_nt)
  | (with_reducible apply if_nf)
  | (with_reducible apply k_isi_ii)
  | (with_reducible apply k_isi_ib)
  | (with_reducible apply k_isi_bb)
  | (with_reducible apply k_isi_it)
  | ((with_reducible apply k_isi_tt); (· walk_at "ht"))
  | (with_reducible apply k_abs)
  | ((with_reducible apply k_max2); intro k hk1 hk2 hk3)
  | ((with_reducible apply k_min2); intro k hk1 hk2 hk3)
  | ((with_reducible apply k_lenT); (· walk_at "ht"))
  | ((with_reducible apply k_lenL); (· walk_at "hl"))
  | (with_reducible apply k_intI)
  | (with_reducible apply k_intB)
  | (with_reducible apply k_par)
  | (with_reducible apply k_par2)
  | (with_reducible apply k_ifx)
  | (with_reducible apply k_gname)
  | (with_reducible apply k_asgG)
  | (with_reducible apply k_retN)
  | (with_reducible apply k_lstrg)
  | ((with_reducible apply k_lstrgV); (· omega); intro p H' hn hs ht)
  | (with_reducible apply k_bits)
  | (with_reducible apply k_bitsV)
  | (with_reducible apply k_isN_n)
  | (with_reducible apply k_isN_i)
  | (with_reducible apply k_isN_r)
  | (with_reducible apply k_notN_n)
  | (with_reducible apply k_notN_i)
  | (with_reducible apply k_notN_r)
  | (with_reducible apply k_lc)
  | (with_reducible apply k_itup)
  | (with_reducible apply k_ilst)
  | ((with_reducible apply k_sqt); (· walk_at "ht"))
  | ((with_reducible apply k_sql); (· walk_at "hl"))
  | (with_reducible apply k_irng1)
  | ((with_reducible apply k_rng1); (· first | decide | omega))
  | (with_reducible apply k_irng2L)
  | (with_reducible apply k_rng2L)
  | (with_reducible apply k_irng2)
  | (with_reducible apply k_irng3)
  | ((with_reducible apply k_rng2); (· first | decide | omega))
  | ((with_reducible apply k_gtup); (· walk_at "ht"); (· rfl))
  | (with_reducible apply k_gcons)
  | (with_reducible apply k_gnil)
  | ((with_reducible apply k_notin2); (· walk_at "hl"))
  | ((with_reducible apply k_in2); (· walk_at "hl"))
  | ((with_reducible apply k_in3); (· walk_at "hl"))
  | ((with_reducible apply k_notinL); (· walk_at "hl"))
  | ((with_reducible apply k_inL'); (· walk_at "hl"))
  | ((with_reducible apply k_divmod); (· walk_at "sd"); intro p H' hn hs ht) | fail)
local macro_rules | `(tactic| walk_at "go") => `(tactic| repeat' walk_at "st")
/-- a branch: both ways, those that cannot be shut by omega -/
local macro_rules | `(tactic| walk_at "br") => `(tactic| (first | with_reducible apply if_dec | with_reducible apply if_ndec | with_reducible apply if_b) <;> intro hbr <;> first | (first | exact absurd (by assumption) hbr | exact absurd hbr (by assumption) | (exfalso; omega) | (exfalso; simp only [List.length_cons, List.length_nil] at hbr; omega)) | skip)
/-- an if statement: its test walked, the ways that can be -/
local macro_rules | `(tactic| walk_at "if") => `(tactic| ((first | with_reducible apply k_seqI | with_reducible apply k_if); walk_at "go"; walk_at "br"))
/-- a branch of which omega shuts one way -/
local macro_rules | `(tactic| walk_at "br1") => `(tactic| first
  | (with_reducible apply if_dec; (· (intro hbr; first | exact absurd (by assumption) hbr | exact absurd hbr (by assumption) | (exfalso; omega) | (exfalso; simp only [List.length_cons, List.length_nil] at hbr; omega))); intro hbr)
  | (with_reducible apply if_dec; rotate_left; (· (intro hbr; first | exact absurd (by assumption) hbr | exact absurd hbr (by assumption) | (exfalso; omega) | (exfalso; simp only [List.length_cons, List.length_nil] at hbr; omega))); intro hbr)
  | (with_reducible apply if_ndec; (· (intro hbr; first | exact absurd (by assumption) hbr | exact absurd hbr (by assumption) | (exfalso; omega) | (exfalso; simp only [List.length_cons, List.length_nil] at hbr; omega))); intro hbr)
  | (with_reducible apply if_ndec; rotate_left; (· (intro hbr; first | exact absurd (by assumption) hbr | exact absurd hbr (by assumption) | (exfalso; omega) | (exfalso; simp only [List.length_cons, List.length_nil] at hbr; omega))); intro hbr) | fail)
local macro_rules | `(tactic| walk_at "run") => `(tactic| repeat' (first | walk_at "st" | walk_at "br1" | with_reducible apply k_seqI | with_reducible apply k_if))
local macro_rules | `(tactic| walk_at "all") => `(tactic| repeat' (first | walk_at "st" | walk_at "br1" | walk_at "br" | with_reducible apply k_seqI | with_reducible apply k_if))
local macro_rules | `(tactic| walk_at "st") => `(tactic| first
  | ((with_reducible apply k_eqP); (· walk_at "ht"); (· walk_at "ht"))
  | ((with_reducible apply k_neP); (· walk_at "ht"); (· walk_at "ht")) | fail)
local macro_rules | `(tactic| walk_at "st") => `(tactic| first
  | ((with_reducible apply if_seq); (· rfl))
  | ((with_reducible apply if_nseq); (· rfl))
  | ((with_reducible apply if_sne); (· decide +kernel))
  | ((with_reducible apply if_nsne); (· decide +kernel)) | fail)

theorem sm190 {i : Int} (h1 : -1000000000000000000000000000000000000000000000000000 ≤ i) (h2 : i ≤ 1000000000000000000000000000000000000000000000000000) : Sm 190 i := by
  refine ⟨?_⟩
  have e : (1000000000000000000000000000000000000000000000000000 : Nat) < 2 ^ 190 := by decide +kernel
  omega
theorem k_ifS {c : TT} {t u : TS} {D : Ends} {σ : L2.St} {H : Hp} (h : c σ H fun b H1 => if b = true then t D σ H1 else u D σ H1) : tIfS c t u D σ H := h
theorem k_callS {sp : Sp} {E : L2.St → XK} {tr : TA} {σ : L2.St} {H : Hp} {Q : VK} (h : tr σ H fun vs H1 => sp vs H1 Q (E σ)) : tCallS sp E tr σ H Q := h
local macro_rules | `(tactic| walk_at "st") => `(tactic| first | (with_reducible apply k_callS) | fail)

def topS (i : Nat) : Stmt := PySem.Challenge.pw_feastwheel_k05_sizes_refused.main.body.getD i (.Pass ⟨0, 0, 0, 0⟩)
abbrev s_Lcell_at : Stmt := topS 22
theorem sc_Lcell_at : FnScope ["_law_script", "_law_k"] ["_law_script", "_law_k"] (defScope s_Lcell_at) := ⟨rfl, rfl, rfl, by decide +kernel, rfl, by decide +kernel, by decide +kernel⟩
abbrev s_sized : Stmt := topS 16
theorem sc_sized : FnScope ["size"] ["size"] (defScope s_sized) := ⟨rfl, rfl, rfl, by decide +kernel, rfl, by decide +kernel, by decide +kernel⟩
abbrev s_back : Stmt := topS 20
theorem sc_back : FnScope ["rest", "size", "day"] ["rest", "size", "day"] (defScope s_back) := ⟨rfl, rfl, rfl, by decide +kernel, rfl, by decide +kernel, by decide +kernel⟩
abbrev s_divisor : Stmt := topS 14
theorem sc_divisor : FnScope ["one", "other"] ["one", "other"] (defScope s_divisor) := ⟨rfl, rfl, rfl, by decide +kernel, rfl, by decide +kernel, by decide +kernel⟩
abbrev s_common : Stmt := topS 17
theorem sc_common : FnScope ["one", "other"] ["one", "other"] (defScope s_common) := ⟨rfl, rfl, rfl, by decide +kernel, rfl, by decide +kernel, by decide +kernel⟩
abbrev s_equation : Stmt := topS 15
theorem sc_equation : FnScope ["one", "other", "first", "second", "times", "rest", "k"] ["one", "other"] (defScope s_equation) := ⟨rfl, rfl, rfl, by decide +kernel, rfl, by decide +kernel, by decide +kernel⟩
abbrev s_met : Stmt := topS 18
theorem sc_met : FnScope ["rest", "size", "other_rest", "other_size", "by_one", "by_other", "shared", "apart", "whole"] ["rest", "size", "other_rest", "other_size"] (defScope s_met) := ⟨rfl, rfl, rfl, by decide +kernel, rfl, by decide +kernel, by decide +kernel⟩
abbrev s_ahead : Stmt := topS 19
theorem sc_ahead : FnScope ["rest", "size", "day"] ["rest", "size", "day"] (defScope s_ahead) := ⟨rfl, rfl, rfl, by decide +kernel, rfl, by decide +kernel, by decide +kernel⟩
abbrev s_Lcall : Stmt := topS 23
theorem sc_Lcall : FnScope ["_law_way", "_law_bad", "_law_good", "_law_rest", "_law_day"] ["_law_way", "_law_bad", "_law_good", "_law_rest", "_law_day"] (defScope s_Lcall) := ⟨rfl, rfl, rfl, by decide +kernel, rfl, by decide +kernel, by decide +kernel⟩
abbrev s_Lrefused_by_any : Stmt := topS 26
theorem sc_Lrefused_by_any : FnScope ["_law_way", "_law_bad", "_law_good", "_law_rest", "_law_day", "_law_refused_here"] ["_law_way", "_law_bad", "_law_good", "_law_rest", "_law_day"] (defScope s_Lrefused_by_any) := ⟨rfl, rfl, rfl, by decide +kernel, rfl, by decide +kernel, by decide +kernel⟩
abbrev s_Lother_kind : Stmt := topS 24
theorem sc_Lother_kind : FnScope ["_law_e"] ["_law_e"] (defScope s_Lother_kind) := ⟨rfl, rfl, rfl, by decide +kernel, rfl, by decide +kernel, by decide +kernel⟩
abbrev s_Lrefused : Stmt := topS 25
theorem sc_Lrefused : FnScope ["_law_way", "_law_bad", "_law_good", "_law_rest", "_law_day", "_law_refused_here", "_law_e"] ["_law_way", "_law_bad", "_law_good", "_law_rest", "_law_day"] (defScope s_Lrefused) := ⟨rfl, rfl, rfl, by decide +kernel, rfl, by decide +kernel, by decide +kernel⟩
abbrev s_law : Stmt := topS 27
theorem sc_law : FnScope ["_law_script", "_law_way", "_law_bad", "_law_good", "_law_rest", "_law_day"] ["_law_script"] (defScope s_law) := ⟨rfl, rfl, rfl, by decide +kernel, rfl, by decide +kernel, by decide +kernel⟩
structure Txt (K : PySem.W.Frag) (mg : Str → Option Value) where
  a_Lcell_at : Addr
  fd_Lcell_at : FuncData
  F_Lcell_at : Fun K "_law_cell_at" "_law_cell_at" s_Lcell_at a_Lcell_at fd_Lcell_at
  g_Lcell_at : mg "_law_cell_at" = some (.ref a_Lcell_at)
  b_Lcell_at : Binds K fd_Lcell_at ["_law_script", "_law_k"] []
  a_sized : Addr
  fd_sized : FuncData
  F_sized : Fun K "sized" "sized" s_sized a_sized fd_sized
  g_sized : mg "sized" = some (.ref a_sized)
  b_sized : Binds K fd_sized ["size"] []
  a_back : Addr
  fd_back : FuncData
  F_back : Fun K "back" "back" s_back a_back fd_back
  g_back : mg "back" = some (.ref a_back)
  b_back : Binds K fd_back ["rest", "size", "day"] []
  a_divisor : Addr
  fd_divisor : FuncData
  F_divisor : Fun K "divisor" "divisor" s_divisor a_divisor fd_divisor
  g_divisor : mg "divisor" = some (.ref a_divisor)
  b_divisor : Binds K fd_divisor ["one", "other"] []
  a_common : Addr
  fd_common : FuncData
  F_common : Fun K "common" "common" s_common a_common fd_common
  g_common : mg "common" = some (.ref a_common)
  b_common : Binds K fd_common ["one", "other"] []
  a_equation : Addr
  fd_equation : FuncData
  F_equation : Fun K "equation" "equation" s_equation a_equation fd_equation
  g_equation : mg "equation" = some (.ref a_equation)
  b_equation : Binds K fd_equation ["one", "other"] []
  a_met : Addr
  fd_met : FuncData
  F_met : Fun K "met" "met" s_met a_met fd_met
  g_met : mg "met" = some (.ref a_met)
  b_met : Binds K fd_met ["rest", "size", "other_rest", "other_size"] []
  a_ahead : Addr
  fd_ahead : FuncData
  F_ahead : Fun K "ahead" "ahead" s_ahead a_ahead fd_ahead
  g_ahead : mg "ahead" = some (.ref a_ahead)
  b_ahead : Binds K fd_ahead ["rest", "size", "day"] []
  a_Lcall : Addr
  fd_Lcall : FuncData
  F_Lcall : Fun K "_law_call" "_law_call" s_Lcall a_Lcall fd_Lcall
  g_Lcall : mg "_law_call" = some (.ref a_Lcall)
  b_Lcall : Binds K fd_Lcall ["_law_way", "_law_bad", "_law_good", "_law_rest", "_law_day"] []
  a_Lrefused_by_any : Addr
  fd_Lrefused_by_any : FuncData
  F_Lrefused_by_any : Fun K "_law_refused_by_any" "_law_refused_by_any" s_Lrefused_by_any a_Lrefused_by_any fd_Lrefused_by_any
  g_Lrefused_by_any : mg "_law_refused_by_any" = some (.ref a_Lrefused_by_any)
  b_Lrefused_by_any : Binds K fd_Lrefused_by_any ["_law_way", "_law_bad", "_law_good", "_law_rest", "_law_day"] []
  a_Lother_kind : Addr
  fd_Lother_kind : FuncData
  F_Lother_kind : Fun K "_law_other_kind" "_law_other_kind" s_Lother_kind a_Lother_kind fd_Lother_kind
  g_Lother_kind : mg "_law_other_kind" = some (.ref a_Lother_kind)
  b_Lother_kind : Binds K fd_Lother_kind ["_law_e"] []
  a_Lrefused : Addr
  fd_Lrefused : FuncData
  F_Lrefused : Fun K "_law_refused" "_law_refused" s_Lrefused a_Lrefused fd_Lrefused
  g_Lrefused : mg "_law_refused" = some (.ref a_Lrefused)
  b_Lrefused : Binds K fd_Lrefused ["_law_way", "_law_bad", "_law_good", "_law_rest", "_law_day"] []
  a_law : Addr
  fd_law : FuncData
  F_law : Fun K "law" "law" s_law a_law fd_law
  g_law : mg "law" = some (.ref a_law)
  b_law : Binds K fd_law ["_law_script"] []
  n_ValueError : mg "ValueError" = none
  n_abs : mg "abs" = none
  n_isinstance : mg "isinstance" = none
  n_len : mg "len" = none
  n_max : mg "max" = none
  n_range : mg "range" = none
  C_NoNumber : Addr
  gc_NoNumber : mg "NoNumber" = some (.ref C_NoNumber)
  x_NoNumber : PySem.W.excIn K C_NoNumber [.type "ValueError", .type "Exception", .type "BaseException", .type "object"] "ValueError.__new__" = true
  kc_NoNumber : PySem.W.keepIn K (.ref C_NoNumber) = true
  bc_NoNumber : PySem.W.subIn K (.ref C_NoNumber) (.type "BaseException") = some true
  tc_NoNumber : PySem.W.typeIn K (.ref C_NoNumber) = some (.type "type")
  ic_NoNumber : PySem.W.isClsIn K C_NoNumber = true
  sc_NoNumber : PySem.W.subIn K (.ref C_NoNumber) (.ref C_NoNumber) = some true
  C_FeastError : Addr
  gc_FeastError : mg "FeastError" = some (.ref C_FeastError)
  kc_FeastError : PySem.W.keepIn K (.ref C_FeastError) = true
  bc_FeastError : PySem.W.subIn K (.ref C_FeastError) (.type "BaseException") = some true
  tc_FeastError : PySem.W.typeIn K (.ref C_FeastError) = some (.type "type")
  ic_FeastError : PySem.W.isClsIn K C_FeastError = true
  sc_FeastError : PySem.W.subIn K (.ref C_FeastError) (.ref C_FeastError) = some true
  C_TooLong : Addr
  gc_TooLong : mg "TooLong" = some (.ref C_TooLong)
  kc_TooLong : PySem.W.keepIn K (.ref C_TooLong) = true
  bc_TooLong : PySem.W.subIn K (.ref C_TooLong) (.type "BaseException") = some true
  tc_TooLong : PySem.W.typeIn K (.ref C_TooLong) = some (.type "type")
  ic_TooLong : PySem.W.isClsIn K C_TooLong = true
  sc_TooLong : PySem.W.subIn K (.ref C_TooLong) (.ref C_TooLong) = some true
  C_NoMeasure : Addr
  gc_NoMeasure : mg "NoMeasure" = some (.ref C_NoMeasure)
  kc_NoMeasure : PySem.W.keepIn K (.ref C_NoMeasure) = true
  bc_NoMeasure : PySem.W.subIn K (.ref C_NoMeasure) (.type "BaseException") = some true
  tc_NoMeasure : PySem.W.typeIn K (.ref C_NoMeasure) = some (.type "type")
  ic_NoMeasure : PySem.W.isClsIn K C_NoMeasure = true
  sc_NoMeasure : PySem.W.subIn K (.ref C_NoMeasure) (.ref C_NoMeasure) = some true
  C_NoDate : Addr
  gc_NoDate : mg "NoDate" = some (.ref C_NoDate)
  kc_NoDate : PySem.W.keepIn K (.ref C_NoDate) = true
  bc_NoDate : PySem.W.subIn K (.ref C_NoDate) (.type "BaseException") = some true
  tc_NoDate : PySem.W.typeIn K (.ref C_NoDate) = some (.type "type")
  ic_NoDate : PySem.W.isClsIn K C_NoDate = true
  sc_NoDate : PySem.W.subIn K (.ref C_NoDate) (.ref C_NoDate) = some true
  C_InGap : Addr
  gc_InGap : mg "InGap" = some (.ref C_InGap)
  kc_InGap : PySem.W.keepIn K (.ref C_InGap) = true
  bc_InGap : PySem.W.subIn K (.ref C_InGap) (.type "BaseException") = some true
  tc_InGap : PySem.W.typeIn K (.ref C_InGap) = some (.type "type")
  ic_InGap : PySem.W.isClsIn K C_InGap = true
  sc_InGap : PySem.W.subIn K (.ref C_InGap) (.ref C_InGap) = some true
  C_NoChange : Addr
  gc_NoChange : mg "NoChange" = some (.ref C_NoChange)
  kc_NoChange : PySem.W.keepIn K (.ref C_NoChange) = true
  bc_NoChange : PySem.W.subIn K (.ref C_NoChange) (.type "BaseException") = some true
  tc_NoChange : PySem.W.typeIn K (.ref C_NoChange) = some (.type "type")
  ic_NoChange : PySem.W.isClsIn K C_NoChange = true
  sc_NoChange : PySem.W.subIn K (.ref C_NoChange) (.ref C_NoChange) = some true
  C_NoCycle : Addr
  gc_NoCycle : mg "NoCycle" = some (.ref C_NoCycle)
  kc_NoCycle : PySem.W.keepIn K (.ref C_NoCycle) = true
  bc_NoCycle : PySem.W.subIn K (.ref C_NoCycle) (.type "BaseException") = some true
  tc_NoCycle : PySem.W.typeIn K (.ref C_NoCycle) = some (.type "type")
  ic_NoCycle : PySem.W.isClsIn K C_NoCycle = true
  sc_NoCycle : PySem.W.subIn K (.ref C_NoCycle) (.ref C_NoCycle) = some true
  C_NoText : Addr
  gc_NoText : mg "NoText" = some (.ref C_NoText)
  kc_NoText : PySem.W.keepIn K (.ref C_NoText) = true
  bc_NoText : PySem.W.subIn K (.ref C_NoText) (.type "BaseException") = some true
  tc_NoText : PySem.W.typeIn K (.ref C_NoText) = some (.type "type")
  ic_NoText : PySem.W.isClsIn K C_NoText = true
  sc_NoText : PySem.W.subIn K (.ref C_NoText) (.ref C_NoText) = some true
  C_NoRule : Addr
  gc_NoRule : mg "NoRule" = some (.ref C_NoRule)
  kc_NoRule : PySem.W.keepIn K (.ref C_NoRule) = true
  bc_NoRule : PySem.W.subIn K (.ref C_NoRule) (.type "BaseException") = some true
  tc_NoRule : PySem.W.typeIn K (.ref C_NoRule) = some (.type "type")
  ic_NoRule : PySem.W.isClsIn K C_NoRule = true
  sc_NoRule : PySem.W.subIn K (.ref C_NoRule) (.ref C_NoRule) = some true
  C_NoName : Addr
  gc_NoName : mg "NoName" = some (.ref C_NoName)
  kc_NoName : PySem.W.keepIn K (.ref C_NoName) = true
  bc_NoName : PySem.W.subIn K (.ref C_NoName) (.type "BaseException") = some true
  tc_NoName : PySem.W.typeIn K (.ref C_NoName) = some (.type "type")
  ic_NoName : PySem.W.isClsIn K C_NoName = true
  sc_NoName : PySem.W.subIn K (.ref C_NoName) (.ref C_NoName) = some true
  C_NoRow : Addr
  gc_NoRow : mg "NoRow" = some (.ref C_NoRow)
  kc_NoRow : PySem.W.keepIn K (.ref C_NoRow) = true
  bc_NoRow : PySem.W.subIn K (.ref C_NoRow) (.type "BaseException") = some true
  tc_NoRow : PySem.W.typeIn K (.ref C_NoRow) = some (.type "type")
  ic_NoRow : PySem.W.isClsIn K C_NoRow = true
  sc_NoRow : PySem.W.subIn K (.ref C_NoRow) (.ref C_NoRow) = some true
  sb_NoNumber_FeastError : PySem.W.subIn K (.ref C_NoNumber) (.ref C_FeastError) = some true
  sb_NoNumber_TooLong : PySem.W.subIn K (.ref C_NoNumber) (.ref C_TooLong) = some false
  sb_NoNumber_NoMeasure : PySem.W.subIn K (.ref C_NoNumber) (.ref C_NoMeasure) = some false
  sb_NoNumber_NoDate : PySem.W.subIn K (.ref C_NoNumber) (.ref C_NoDate) = some false
  sb_NoNumber_InGap : PySem.W.subIn K (.ref C_NoNumber) (.ref C_InGap) = some false
  sb_NoNumber_NoChange : PySem.W.subIn K (.ref C_NoNumber) (.ref C_NoChange) = some false
  sb_NoNumber_NoCycle : PySem.W.subIn K (.ref C_NoNumber) (.ref C_NoCycle) = some false
  sb_NoNumber_NoText : PySem.W.subIn K (.ref C_NoNumber) (.ref C_NoText) = some false
  sb_NoNumber_NoRule : PySem.W.subIn K (.ref C_NoNumber) (.ref C_NoRule) = some false
  sb_NoNumber_NoName : PySem.W.subIn K (.ref C_NoNumber) (.ref C_NoName) = some false
  sb_NoNumber_NoRow : PySem.W.subIn K (.ref C_NoNumber) (.ref C_NoRow) = some false
  xc_NoNumber : ExcC K C_NoNumber
  sv_NoNumber : PySem.W.subIn K (.ref C_NoNumber) (.type "ValueError") = some true
section
variable {P : Program} {w : World} {K : PySem.W.Frag} {mg : Str → Option Value} {base : Heap}
/-! ### _law_cell_at -/
/-- a cell of the script; nought behind its end -/
def sp_Lcell_at (K : PySem.W.Frag) : Sp := fun vs H Q _ => ∃ (a : Addr) (ns : List Int) (k : Int), vs = [.ref a, .int k] ∧ SqL K H a (ns.map V.int) ∧ 0 ≤ k ∧ Q (.int (ns.getD k.toNat 0)) H
theorem ok_Lcell_at (T : Txt K mg) : FnOk P w K mg base CX0 1 T.a_Lcell_at T.fd_Lcell_at ["_law_script", "_law_k"] (sp_Lcell_at K) := by
  refine T.F_Lcell_at.ok sc_Lcell_at (fun vs H Q E h => ?_) (fun cdv A outer s H vs Q E hr h => ?_)
  · obtain ⟨_, _, _, rfl, _⟩ := h; rfl
  · obtain ⟨a, ns, k, rfl, hS, h0, q⟩ := h
    refine ⟨_, (pss_cons (ps_if (pt_cmpR op_lt (pv 1) (pe_callB (kb_len K) (by rfl) T.n_len (by decide +kernel) (pa_cons (pv 0) pa_nil)) (nomark _)) (pss_one (ps_ret (pe_ix (kb_ix K) (pv 0) (pv 1) (fun _ _ => rfl)))) pss_nil)
        (pss_one (ps_ret pe_int))), ?_⟩
    apply k_seqI; walk_at "go"
    refine if_dec (fun hk => ?_) (fun hk => ?_)
    · walk_at "go"
      rw [List.length_map] at hk
      have e : ((ns.map V.int)[k.toNat]?) = some (V.int (ns.getD k.toNat 0)) := by
        rw [List.getElem?_map, List.getElem?_eq_getElem (show k.toNat < ns.length by omega), List.getD_eq_getElem?_getD, List.getElem?_eq_getElem (show k.toNat < ns.length by omega)]
        rfl
      exact k_ixL hS (at_of (show k = ((k.toNat : Nat) : Int) by omega) e) q
    · walk_at "go"
      rw [List.length_map] at hk
      have e : ns.getD k.toNat 0 = 0 := by
        rw [List.getD_eq_getElem?_getD, List.getElem?_eq_none (by omega)]; rfl
      rw [e] at q
      exact q
theorem sm_getD {ns : List Int} {n : Nat} (hb : ∀ z ∈ ns, Builtin.Int.intBits z ≤ n) (k : Nat) : Sm n (ns.getD k 0) := by
  rw [List.getD_eq_getElem?_getD]
  by_cases h : k < ns.length
  · rw [List.getElem?_eq_getElem h]; exact sm_bits (hb _ (List.getElem_mem h))
  · rw [List.getElem?_eq_none (by omega)]; exact ⟨Nat.pow_pos (by decide)⟩
theorem k_cell {H : Hp} {Q : VK} {E : XK} {a : Addr} {ns : List Int} {k : Int} (hb : ∀ z ∈ ns, Builtin.Int.intBits z ≤ 1048576) (hS : SqL K H a (ns.map V.int)) (h0 : 0 ≤ k)
    (q : ∀ c, c = ns.getD k.toNat 0 → Sm 1048576 c → Q (.int c) H) : sp_Lcell_at K [.ref a, .int k] H Q E := ⟨a, ns, k, rfl, hS, h0, q _ rfl (sm_getD hb _)⟩
local macro_rules | `(tactic| walk_at "st") => `(tactic| first | ((with_reducible apply k_cell); (· assumption); (· walk_at "hp"); (· first | decide | omega); intro c hc hm) | fail)

/-! ### sized -/
def sp_sized (K : PySem.W.Frag) (T : Txt K mg) : Sp := fun vs H Q E => ∃ i : Int, vs = [.int i] ∧ (i < 1 → E (.ref T.C_NoNumber) none H) ∧ (1 ≤ i → Q .non H)
theorem ok_sized (T : Txt K mg) : FnOk P w K mg base (L2.CX P w) 1 T.a_sized T.fd_sized ["size"] (sp_sized K T) := by
  refine T.F_sized.okX sc_sized (fun vs H Q E h => ?_) (fun cdv A outer s H vs Q E hr h => ?_)
  · obtain ⟨_, rfl, _⟩ := h; rfl
  · obtain ⟨i, rfl, q0, q⟩ := h
    refine ⟨_, (pss_one (ps_if (pt_cmpR op_lt (pv 0) pe_int (nomark _)) (pss_one (ps_raise rfl (takes_of rfl rfl rfl rfl) (pmk_own PySem.F.excBase_ValueError T.x_NoNumber T.gc_NoNumber T.kc_NoNumber (raises_own T.bc_NoNumber T.tc_NoNumber) rfl))) pss_nil)), ?_⟩
    with_reducible apply k_ifS
    walk_at "go"
    refine if_dec (fun hi => q0 hi) (fun hi => ?_)
    walk_at "go"
    exact q (by omega)
theorem k_sized {T : Txt K mg} {H : Hp} {Q : VK} {E : XK} {i : Int} (q0 : i < 1 → E (.ref T.C_NoNumber) none H) (q : 1 ≤ i → Q .non H) : sp_sized K T [.int i] H Q E := ⟨i, rfl, q0, q⟩

/-! ### back -/
def sp_back (K : PySem.W.Frag) (T : Txt K mg) : Sp := fun vs H Q E => ∃ r n d : Int, vs = [.int r, .int n, .int d] ∧ (n < 1 → E (.ref T.C_NoNumber) none H) ∧ (1 ≤ n → Q (.int (d - (d - r) % n)) H)
theorem ok_back (T : Txt K mg) : FnOk P w K mg base (L2.CX P w) 2 T.a_back T.fd_back ["rest", "size", "day"] (sp_back K T) := by
  refine T.F_back.okX sc_back (fun vs H Q E h => ?_) (fun cdv A outer s H vs Q E hr h => ?_)
  · obtain ⟨_, _, _, rfl, _⟩ := h; rfl
  · obtain ⟨r, n, d, rfl, q0, q⟩ := h
    refine ⟨_, (pss_cons (ps_expr (pe_callS (ok_sized T) (hr.mono (by decide)) (by rfl) T.g_sized T.F_sized.kp T.b_sized (fun σ => passAt (takes_of rfl rfl rfl rfl) σ) (pa_cons (pv 1) pa_nil)))
        (PSs.nox (pss_one (ps_ret (pe_op op_sub (pv 2) (pe_op op_mod (pe_op op_sub (pv 2) (pv 0)) (pv 1))))))), ?_⟩
    walk_at "go"
    refine k_sized q0 (fun h1 => ?_)
    have q := q h1
    walk_at "go"
    exact q
theorem k_back {T : Txt K mg} {H : Hp} {Q : VK} {E : XK} {r n d : Int} (q0 : n < 1 → E (.ref T.C_NoNumber) none H) (q : 1 ≤ n → Q (.int (d - (d - r) % n)) H) : sp_back K T [.int r, .int n, .int d] H Q E := ⟨r, n, d, rfl, q0, q⟩

/-! ### divisor -/
def sp_divisor (K : PySem.W.Frag) : Sp := fun vs H Q _ => ∃ i j : Int, vs = [.int i, .int j] ∧ Q (.int (Int.gcd i j : Nat)) H
theorem ok_divisor (T : Txt K mg) : FnOk P w K mg base CX0 1 T.a_divisor T.fd_divisor ["one", "other"] (sp_divisor K) := by
  refine T.F_divisor.ok sc_divisor (fun vs H Q E h => ?_) (fun cdv A outer s H vs Q E hr h => ?_)
  · obtain ⟨_, _, rfl, _⟩ := h; rfl
  · obtain ⟨i, j, rfl, q⟩ := h
    have hu := hr.units
    refine ⟨_, (pss_cons (ps_set (i := 0) sc_divisor.nd rfl (Or.inl rfl) (pe_callB cb_abs (by rfl) T.n_abs (by decide +kernel) (pa_cons (pv 0) pa_nil)))
        (pss_cons (ps_set (i := 1) sc_divisor.nd rfl (Or.inl rfl) (pe_callB cb_abs (by rfl) T.n_abs (by decide +kernel) (pa_cons (pv 1) pa_nil)))
        (pss_cons (ps_while PassesOwn.never (pt_cmpR (kb_ne K (hu := hu)) (pv 1) pe_int (nomark _)) (pss_one (ps_par rfl sc_divisor.nd (i := 0) (j := 1) rfl rfl (by decide) rfl rfl (pa_cons (pv 1) (pa_cons (pe_op op_mod (pv 0) (pv 1)) pa_nil)) (by rfl))))
        (pss_one (ps_ret (pv 0)))))), ?_⟩
    walk_at "go"
    apply k_seqW
    refine k_while (fun m σ' H' => ∃ x y : Int, σ' = [some (.int x), some (.int y)] ∧ H = H' ∧ 0 ≤ x ∧ 0 ≤ y ∧ m = y.toNat ∧ Int.gcd x y = Int.gcd i j) _ ⟨_, _, rfl, rfl, abs_nn _, abs_nn _, rfl, gcd_abs i j⟩ ?_
    rintro m _ _ ⟨x, y, rfl, rfl, hx, hy, rfl, hg⟩
    walk_at "go"
    refine if_ndec (fun hbr => ?_) (fun hbr => ?_)
    · apply k_turn
      walk_at "go"
      have h1 := Int.emod_nonneg x hbr
      have h2 := Int.emod_lt_of_pos x (show 0 < y by omega)
      exact ⟨_, by omega, _, _, rfl, rfl, hy, h1, rfl, by rw [gcd_mod]; exact hg⟩
    · walk_at "go"
      rw [← hg, hbr, gcd_zero x hx] at q
      exact q
theorem k_divisor {H : Hp} {Q : VK} {E : XK} {i j : Int} (q : Q (.int (Int.gcd i j : Nat)) H) : sp_divisor K [.int i, .int j] H Q E := ⟨i, j, rfl, q⟩
local macro_rules | `(tactic| walk_at "st") => `(tactic| first | (with_reducible apply k_divisor) | fail)

/-! ### common -/
def sp_common (K : PySem.W.Frag) (T : Txt K mg) : Sp := fun vs H Q E => ∃ i j : Int, vs = [.int i, .int j] ∧ (i < 1 ∨ j < 1 → E (.ref T.C_NoNumber) none H) ∧ Sm 300 i ∧ Sm 300 j ∧ (1 ≤ i → 1 ≤ j → Q (.int (lcmI i j)) H)
theorem ok_common (T : Txt K mg) : FnOk P w K mg base (L2.CX P w) 2 T.a_common T.fd_common ["one", "other"] (sp_common K T) := by
  refine T.F_common.okX sc_common (fun vs H Q E h => ?_) (fun cdv A outer s H vs Q E hr h => ?_)
  · obtain ⟨_, _, rfl, _⟩ := h; rfl
  · obtain ⟨i, j, rfl, q0, s1, s2, q⟩ := h
    refine ⟨_, (pss_cons (ps_expr (pe_callS (ok_sized T) (hr.mono (by decide)) (by rfl) T.g_sized T.F_sized.kp T.b_sized (fun σ => passAt (takes_of rfl rfl rfl rfl) σ) (pa_cons (pv 0) pa_nil)))
        (pss_cons (ps_expr (pe_callS (ok_sized T) (hr.mono (by decide)) (by rfl) T.g_sized T.F_sized.kp T.b_sized (fun σ => passAt (takes_of rfl rfl rfl rfl) σ) (pa_cons (pv 1) pa_nil)))
        (PSs.nox (pss_one (ps_ret (pe_op op_mulX (pe_op op_fdivW (pv 0) (pe_call (ok_divisor T) (hr.mono (by decide)) (by rfl) T.g_divisor T.F_divisor.kp T.b_divisor .nil pass0 (pa_cons (pv 0) (pa_cons (pv 1) pa_nil)))) (pv 1))))))), ?_⟩
    walk_at "go"
    refine k_sized (fun h => q0 (.inl h)) (fun h1 => ?_)
    walk_at "go"
    refine k_sized (fun h => q0 (.inr h)) (fun h2 => ?_)
    have q := q h1 h2
    have g1 := gcd_pos (b := j) h1
    have g2 := gcd_le (b := j) h1
    have sg : Sm 300 ((Int.gcd i j : Nat) : Int) := ⟨Nat.lt_of_le_of_lt (by omega) s1.h⟩
    have sq : Sm 300 (i / ((Int.gcd i j : Nat) : Int)) := ⟨Nat.lt_of_le_of_lt (by
      have := Int.ediv_le_self ((Int.gcd i j : Nat) : Int) (show 0 ≤ i by omega)
      have := Int.ediv_nonneg (show 0 ≤ i by omega) (show (0 : Int) ≤ ((Int.gcd i j : Nat) : Int) by omega)
      omega) s1.h⟩
    walk_at "go"
    refine k_I (sm_div (by omega) sg (by decide) (by decide)) ?_
    walk_at "go"
    exact q
theorem k_common {T : Txt K mg} {H : Hp} {Q : VK} {E : XK} {i j : Int} (q0 : i < 1 ∨ j < 1 → E (.ref T.C_NoNumber) none H) (s1 : Sm 300 i) (s2 : Sm 300 j) (q : 1 ≤ i → 1 ≤ j → Q (.int (lcmI i j)) H) : sp_common K T [.int i, .int j] H Q E := ⟨i, j, rfl, q0, s1, s2, q⟩
theorem sm300 {i : Int} (h : Sm 200 i) : Sm 300 i := sm_mono h (by decide)

/-! ### equation -/
def sp_equation (K : PySem.W.Frag) : Sp := fun vs H Q _ => ∃ i j : Int, vs = [.int i, .int j] ∧ Sm 200 i ∧ Sm 200 j ∧
  ∀ (p : Addr) (H' : Hp) (u v : Int), Same H H' → SqT K H' p [.int u, .int v, .int (Int.gcd i j : Nat)] → u * i + v * j = (Int.gcd i j : Nat) → Sm 1010 u → Sm 1010 v → Q (.ref p) H'
structure EqSt (K : PySem.W.Frag) (H : Hp) (i j : Int) (m : Nat) (σ' : L2.St) (H' : Hp) (p1 p2 : Addr) (u1 v1 r1 u2 v2 r2 : Int) : Prop where
  st : ∃ t r k, σ' = [some (.int i), some (.int j), some (.ref p1), some (.ref p2), t, r, k]
  sm : Same H H'
  t1 : SqT K H' p1 [.int u1, .int v1, .int r1]
  t2 : SqT K H' p2 [.int u2, .int v2, .int r2]
  b1 : u1 * i + v1 * j = r1
  b2 : u2 * i + v2 * j = r2
  gc : Int.gcd r1 r2 = Int.gcd i j
  ms : m = r2.natAbs
  s1 : r1.natAbs ≤ 2 ^ 200
  s2 : r2.natAbs ≤ 2 ^ 200
  ph : (u1 = 1 ∧ v1 = 0 ∧ u2 = 0 ∧ v2 = 1 ∧ r1 = i ∧ r2 = j) ∨ Later (2 ^ 806) u1 v1 r1 u2 v2 r2
theorem EqSt.le {K : PySem.W.Frag} {H H' : Hp} {i j : Int} {m : Nat} {σ' : L2.St} {p1 p2 : Addr} {u1 v1 r1 u2 v2 r2 : Int} (h : EqSt K H i j m σ' H' p1 p2 u1 v1 r1 u2 v2 r2) : Sm 1010 u1 ∧ Sm 1010 v1 ∧ Sm 1010 u2 ∧ Sm 1010 v2 := by
  have e : (2 : Nat) ^ 806 < 2 ^ 1010 := Nat.pow_lt_pow_right (by decide) (by decide)
  have e0 : 1 < (2 : Nat) ^ 1010 := Nat.lt_of_lt_of_le (by decide : 1 < 2 ^ 1) (Nat.pow_le_pow_right (by decide) (by decide))
  rcases h.ph with ⟨rfl, rfl, rfl, rfl, _⟩ | hl
  · exact ⟨⟨e0⟩, ⟨Nat.lt_trans (by decide) e0⟩, ⟨Nat.lt_trans (by decide) e0⟩, ⟨e0⟩⟩
  · have := hl.le
    exact ⟨⟨Nat.lt_of_le_of_lt this.1 e⟩, ⟨Nat.lt_of_le_of_lt this.2.1 e⟩, ⟨Nat.lt_of_le_of_lt this.2.2.1 e⟩, ⟨Nat.lt_of_le_of_lt this.2.2.2 e⟩⟩
theorem ok_equation (T : Txt K mg) : FnOk P w K mg base CX0 1 T.a_equation T.fd_equation ["one", "other"] (sp_equation K) := by
  refine T.F_equation.ok sc_equation (fun vs H Q E h => ?_) (fun cdv A outer s H vs Q E hr h => ?_)
  · obtain ⟨_, _, rfl, _⟩ := h; rfl
  · obtain ⟨i, j, rfl, si, sj, q⟩ := h
    have hu := hr.units
    refine ⟨_, (pss_cons (ps_set (i := 2) sc_equation.nd rfl (Or.inr rfl) (pe_tup (pa_cons pe_int (pa_cons pe_int (pa_cons (pv 0) pa_nil)))))
        (pss_cons (ps_set (i := 3) sc_equation.nd rfl (Or.inr rfl) (pe_tup (pa_cons pe_int (pa_cons pe_int (pa_cons (pv 1) pa_nil)))))
        (pss_cons (ps_while PassesOwn.never (pt_cmpR (kb_ne K (hu := hu)) (pe_ix (kb_ix K) (pv 3) pe_int (fun _ _ => rfl)) pe_int (nomark _)) (pss_cons (ps_set (i := 4) sc_equation.nd rfl (Or.inr rfl) (pe_op op_fdivX (pe_ix (kb_ix K) (pv 2) pe_int (fun _ _ => rfl)) (pe_ix (kb_ix K) (pv 3) pe_int (fun _ _ => rfl))))
        (pss_cons (ps_setLc (i := 5) (own := [("k", 6)]) (g := gName 6) (tt := tYes) rfl sc_equation.nd rfl rfl (sw_true rfl rfl rfl (by decide +kernel)) (pi_range1 (by rfl) T.n_range (pa_cons pe_int pa_nil)) (blkOk_by (N := ["one", "other", "first", "second", "times", "rest", "k"]) (sc := defScope s_equation) (by decide +kernel)) (fun _ _ _ _ _ => pg_name (i := 6) sc_equation.nd rfl (Or.inl rfl)) (fun _ _ _ _ _ => pts_nil) (fun _ _ _ _ _ => (pe_op op_sub (pe_ix (kb_ix K) (pv 2) (pv 6) (fun _ _ => rfl)) (pe_op op_mulX (pv 4) (pe_ix (kb_ix K) (pv 3) (pv 6) (fun _ _ => rfl))))))
        (pss_cons (ps_set (i := 2) sc_equation.nd rfl (Or.inr rfl) (pv 3))
        (pss_one (ps_set (i := 3) sc_equation.nd rfl (Or.inr rfl) (pe_tup (pa_cons (pe_ix (kb_ix K) (pv 5) pe_int (fun _ _ => rfl)) (pa_cons (pe_ix (kb_ix K) (pv 5) pe_int (fun _ _ => rfl)) (pa_cons (pe_ix (kb_ix K) (pv 5) pe_int (fun _ _ => rfl)) pa_nil))))))))))
        (pss_cons (ps_if (pt_cmpR op_lt (pe_ix (kb_ix K) (pv 2) pe_int (fun _ _ => rfl)) pe_int (nomark _)) (pss_one (ps_ret (pe_tup (pa_cons (pe_un un_neg (pe_ix (kb_ix K) (pv 2) pe_int (fun _ _ => rfl))) (pa_cons (pe_un un_neg (pe_ix (kb_ix K) (pv 2) pe_int (fun _ _ => rfl))) (pa_cons (pe_un un_neg (pe_ix (kb_ix K) (pv 2) pe_int (fun _ _ => rfl))) pa_nil)))))) pss_nil)
        (pss_one (ps_ret (pv 2))))))), ?_⟩
    walk_at "go"
    apply k_seqW
    rename_i p1 H1 n1 s1 t1 p2 H2 n2 s2 t2
    refine k_while (fun m σ' H' => ∃ p1 p2 u1 v1 r1 u2 v2 r2, EqSt K H i j m σ' H' p1 p2 u1 v1 r1 u2 v2 r2) _ ⟨p1, p2, 1, 0, i, 0, 1, j, ⟨_, _, _, rfl⟩, s1.trans s2, SqT.of (s2 _ _ t1), SqT.of t2, by omega, by omega, rfl, rfl, Nat.le_of_lt si.h, Nat.le_of_lt sj.h, .inl ⟨rfl, rfl, rfl, rfl, rfl, rfl⟩⟩ ?_
    clear s1 t1 s2 t2 n1 n2 p1 p2
    rintro m _ H3 ⟨p1, p2, u1, v1, r1, u2, v2, r2, hst⟩
    obtain ⟨⟨t, r, k, rfl⟩, sm, t1, t2, b1, b2, gc, rfl, z1, z2, ph⟩ := id hst
    obtain ⟨c1, c2, c3, c4⟩ := hst.le
    walk_at "go"
    refine if_ndec (fun hbr => ?_) (fun hbr => ?_)
    · apply k_turn
      have zq := fdiv_abs_le (r1 := r1) hbr
      have zr := rest_lt (r1 := r1) hbr
      have sr2 : Sm 201 r2 := ⟨Nat.lt_of_le_of_lt z2 (Nat.pow_lt_pow_right (by decide) (by decide))⟩
      have sq : Sm 300 (r1.fdiv r2) := ⟨Nat.lt_of_le_of_lt (Nat.le_trans zq (Nat.add_le_add z1 z2)) (by decide)⟩
      walk_at "go"
      refine k_I (sm_divx hbr sr2 (by decide) (by decide)) ?_
      walk_at "go"
      refine k_lcr [.int (u1 - r1.fdiv r2 * u2), .int (v1 - r1.fdiv r2 * v2), .int (r1 - r1.fdiv r2 * r2)] (by rfl) (by decide) (fun i v H4 R hv s4 hR => ?_) (fun D H4 hD s4 h4 => ?_)
      · match i, hv with
        | 0, hv => cases hv; walk_at "go"; exact hR _ (Same.refl _)
        | 1, hv => cases hv; walk_at "go"; exact hR _ (Same.refl _)
        | 2, hv => cases hv; walk_at "go"; exact hR _ (Same.refl _)
      · walk_at "go"
        rename_i p3 H5 n5 s5 t5
        refine ⟨_, ?_, p2, p3, u2, v2, r2, _, _, _, ⟨_, _, _, rfl⟩, (sm.trans s4).trans s5, same_t (s4.trans s5) t2, SqT.of t5, b2, bez_step b1 b2, (gcd_rest r1 r2 _).trans gc, rfl, z2, by omega, ?_⟩
        · exact zr
        · right
          rcases ph with ⟨rfl, rfl, rfl, rfl, rfl, rfl⟩ | hl
          · exact Later.first (n := 200) z1 z2 hbr
          · exact hl.step hbr
    · subst hbr
      rw [Int.gcd_zero_right] at gc
      walk_at "go"
      with_reducible apply k_seqI
      walk_at "go"
      refine if_dec (fun hneg => ?_) (fun hneg => ?_)
      · walk_at "go"
        rename_i p3 H5 n5 s5 t5
        refine q p3 H5 _ _ (sm.trans s5) (SqT.of (by rw [t5, ← gc, show ((r1.natAbs : Nat) : Int) = -r1 by omega])) ?_ ⟨by rw [Int.natAbs_neg]; exact c1.h⟩ ⟨by rw [Int.natAbs_neg]; exact c2.h⟩
        rw [← gc, show ((r1.natAbs : Nat) : Int) = -r1 by omega, ← b1, Int.neg_mul, Int.neg_mul]; omega
      · walk_at "go"
        refine q p1 H3 _ _ sm (by rw [← gc, show ((r1.natAbs : Nat) : Int) = r1 by omega]; exact t1) ?_ c1 c2
        rw [← gc, show ((r1.natAbs : Nat) : Int) = r1 by omega]; exact b1
theorem k_equation {H : Hp} {Q : VK} {E : XK} {i j : Int} (si : Sm 200 i) (sj : Sm 200 j) (q : ∀ (p : Addr) (H' : Hp) (u v : Int), Same H H' → SqT K H' p [.int u, .int v, .int (Int.gcd i j : Nat)] → u * i + v * j = (Int.gcd i j : Nat) → Sm 1010 u → Sm 1010 v → Q (.ref p) H') : sp_equation K [.int i, .int j] H Q E := ⟨i, j, rfl, si, sj, q⟩
local macro_rules | `(tactic| walk_at "st") => `(tactic| first | ((with_reducible apply k_equation); (· walk_at "sm"); (· walk_at "sm"); intro p H' u v hs ht hb su sv) | fail)

/-! ### met -/
def sp_met (K : PySem.W.Frag) (T : Txt K mg) : Sp := fun vs H Q E => ∃ r n s m : Int, vs = [.int r, .int n, .int s, .int m] ∧ (n < 1 ∨ m < 1 → E (.ref T.C_NoNumber) none H) ∧ n ≤ 1000000000000000000000000000000000000000000000000000000000000 ∧ m ≤ 1000000000000000000000000000000000000000000000000000000000000 ∧
  Sm 300 r ∧ Sm 300 s ∧ (1 ≤ n → 1 ≤ m → ∀ v H', Same H H' → Q v H')
theorem ok_met (T : Txt K mg) : FnOk P w K mg base (L2.CX P w) 3 T.a_met T.fd_met ["rest", "size", "other_rest", "other_size"] (sp_met K T) := by
  refine T.F_met.okX sc_met (fun vs H Q E h => ?_) (fun cdv A outer s H vs Q E hr h => ?_)
  · obtain ⟨_, _, _, _, rfl, _⟩ := h; rfl
  · obtain ⟨r, n, s, m, rfl, q0, hn', hm', sr, ss, q⟩ := h
    have hu := hr.units
    refine ⟨_, (pss_cons (ps_expr (pe_callS (ok_sized T) (hr.mono (by decide)) (by rfl) T.g_sized T.F_sized.kp T.b_sized (fun σ => passAt (takes_of rfl rfl rfl rfl) σ) (pa_cons (pv 1) pa_nil)))
        (pss_cons (ps_expr (pe_callS (ok_sized T) (hr.mono (by decide)) (by rfl) T.g_sized T.F_sized.kp T.b_sized (fun σ => passAt (takes_of rfl rfl rfl rfl) σ) (pa_cons (pv 3) pa_nil)))
        (pss_cons (ps_asg (pe_call (ok_equation T) (hr.mono (by decide)) (by rfl) T.g_equation T.F_equation.kp T.b_equation .nil pass0 (pa_cons (pv 1) (pa_cons (pv 3) pa_nil))) (pg_tup rfl (pgs_cons (pg_name (i := 4) sc_met.nd rfl (Or.inl rfl)) (pgs_cons (pg_name (i := 5) sc_met.nd rfl (Or.inl rfl)) (pgs_cons (pg_name (i := 6) sc_met.nd rfl (Or.inl rfl)) pgs_nil)))))
        (pss_cons (ps_set (i := 7) sc_met.nd rfl (Or.inl rfl) (pe_op op_sub (pv 2) (pv 0)))
        (pss_cons (ps_if (pt_cmpR (kb_ne K (hu := hu)) (pe_op op_mod (pv 7) (pv 6)) pe_int (nomark _)) (pss_one (ps_ret pe_non)) pss_nil)
        (pss_cons (ps_set (i := 8) sc_met.nd rfl (Or.inl rfl) (pe_callS (ok_common T) (hr.mono (by decide)) (by rfl) T.g_common T.F_common.kp T.b_common (fun σ => passAt (takes_of rfl rfl rfl rfl) σ) (pa_cons (pv 1) (pa_cons (pv 3) pa_nil))))
        (PSs.nox (pss_one (ps_ret (pe_tup (pa_cons (pe_op op_mod (pe_op op_addA (pv 0) (pe_op op_mulX (pe_op op_mulX (pv 1) (pv 4)) (pe_op op_fdivW (pv 7) (pv 6)))) (pv 8)) (pa_cons (pv 8) pa_nil)))))))))))), ?_⟩
    walk_at "go"
    refine k_sized (fun h => q0 (.inl h)) (fun hn => ?_)
    walk_at "go"
    refine k_sized (fun h => q0 (.inr h)) (fun hm => ?_)
    have q := q hn hm
    have g1 := gcd_pos (b := m) hn
    have g2 := gcd_le (b := m) hn
    have sn : Sm 200 n := sm41 (by omega) (by omega)
    have l1 := lcm_pos hn hm
    walk_at "go"
    walk_at "if"
    · rename_i hbr
      walk_at "go"; exact q _ _ (by assumption)
    · rename_i p H' u v hs ht hb su sv hbr
      have hsm : Sm 302 ((s - r) / ((Int.gcd n m : Nat) : Int)) := by
        have e : (2 : Nat) ^ 302 = 4 * 2 ^ 300 := by rw [show (302 : Nat) = 2 + 300 from rfl, Nat.pow_add]
        have h1 := sr.h
        have h2 := ss.h
        generalize (2 : Nat) ^ 300 = X at *
        refine ⟨?_⟩
        rw [e]
        have := Int.natAbs_ediv_le_natAbs (s - r) ((Int.gcd n m : Nat) : Int)
        omega
      walk_at "go"
      refine k_common (fun h => absurd h (by omega)) (sm300 sn) (sm300 (sm41 (by omega) (by omega))) fun _ _ => ?_
      walk_at "go"
      exact q _ _ (by rename_i p3 H3 h3 s3 t3; exact hs.trans s3)
theorem k_met {T : Txt K mg} {H : Hp} {Q : VK} {E : XK} {r n s m : Int} (q0 : n < 1 ∨ m < 1 → E (.ref T.C_NoNumber) none H) (hn' : n ≤ 1000000000000000000000000000000000000000000000000000000000000) (hm' : m ≤ 1000000000000000000000000000000000000000000000000000000000000)
    (sr : Sm 300 r) (ss : Sm 300 s) (q : 1 ≤ n → 1 ≤ m → ∀ v H', Same H H' → Q v H') : sp_met K T [.int r, .int n, .int s, .int m] H Q E := ⟨r, n, s, m, rfl, q0, hn', hm', sr, ss, q⟩

/-! ### ahead -/
def sp_ahead (K : PySem.W.Frag) (T : Txt K mg) : Sp := fun vs H Q E => ∃ r n d : Int, vs = [.int r, .int n, .int d] ∧ (n < 1 → E (.ref T.C_NoNumber) none H) ∧ (1 ≤ n → Q (.int (d + (r - d) % n)) H)
theorem ok_ahead (T : Txt K mg) : FnOk P w K mg base (L2.CX P w) 2 T.a_ahead T.fd_ahead ["rest", "size", "day"] (sp_ahead K T) := by
  refine T.F_ahead.okX sc_ahead (fun vs H Q E h => ?_) (fun cdv A outer s H vs Q E hr h => ?_)
  · obtain ⟨_, _, _, rfl, _⟩ := h; rfl
  · obtain ⟨r, n, d, rfl, q0, q⟩ := h
    refine ⟨_, (pss_cons (ps_expr (pe_callS (ok_sized T) (hr.mono (by decide)) (by rfl) T.g_sized T.F_sized.kp T.b_sized (fun σ => passAt (takes_of rfl rfl rfl rfl) σ) (pa_cons (pv 1) pa_nil)))
        (PSs.nox (pss_one (ps_ret (pe_op op_addA (pv 2) (pe_op op_mod (pe_op op_sub (pv 0) (pv 2)) (pv 1))))))), ?_⟩
    walk_at "go"
    refine k_sized q0 (fun h1 => ?_)
    have q := q h1
    walk_at "go"
    exact q
theorem k_ahead {T : Txt K mg} {H : Hp} {Q : VK} {E : XK} {r n d : Int} (q0 : n < 1 → E (.ref T.C_NoNumber) none H) (q : 1 ≤ n → Q (.int (d + (r - d) % n)) H) : sp_ahead K T [.int r, .int n, .int d] H Q E := ⟨r, n, d, rfl, q0, q⟩

/-! ### _law_call -/
def sp_Lcall (K : PySem.W.Frag) (T : Txt K mg) : Sp := fun vs H Q E => ∃ y b g r d : Int, vs = [.int y, .int b, .int g, .int r, .int d] ∧ (b < 1 → E (.ref T.C_NoNumber) none H) ∧ Sm 190 b ∧ 1 ≤ g ∧ Sm 190 g ∧ b ≤ 1000000000000000000000000000000000000000000000000000000000000 ∧ g ≤ 1000000000000000000000000000000000000000000000000000000000000 ∧ Sm 300 r ∧ (1 ≤ b → ∀ v H', Same H H' → Q v H')
theorem ok_Lcall (T : Txt K mg) : FnOk P w K mg base (L2.CX P w) 4 T.a_Lcall T.fd_Lcall ["_law_way", "_law_bad", "_law_good", "_law_rest", "_law_day"] (sp_Lcall K T) := by
  refine T.F_Lcall.okX sc_Lcall (fun vs H Q E h => ?_) (fun cdv A outer s H vs Q E hr h => ?_)
  · obtain ⟨_, _, _, _, _, rfl, _⟩ := h; rfl
  · obtain ⟨y, b, g, r, d, rfl, q0, sb, hg, sg, hb', hg', sr, q⟩ := h
    have hu := hr.units
    have sb3 : Sm 300 b := sm_mono sb (by decide)
    have sg3 : Sm 300 g := sm_mono sg (by decide)
    refine ⟨_, (pss_cons (ps_if (pt_cmpR (kb_eq K (hu := hu)) (pv 0) pe_int (nomark _)) (pss_one (ps_ret (pe_callS (ok_common T) (hr.mono (by decide)) (by rfl) T.g_common T.F_common.kp T.b_common (fun σ => passAt (takes_of rfl rfl rfl rfl) σ) (pa_cons (pv 1) (pa_cons (pv 2) pa_nil))))) pss_nil)
        (pss_cons (ps_if (pt_cmpR (kb_eq K (hu := hu)) (pv 0) pe_int (nomark _)) (pss_one (ps_ret (pe_callS (ok_common T) (hr.mono (by decide)) (by rfl) T.g_common T.F_common.kp T.b_common (fun σ => passAt (takes_of rfl rfl rfl rfl) σ) (pa_cons (pv 2) (pa_cons (pv 1) pa_nil))))) pss_nil)
        (pss_cons (ps_if (pt_cmpR (kb_eq K (hu := hu)) (pv 0) pe_int (nomark _)) (pss_one (ps_ret (pe_callS (ok_common T) (hr.mono (by decide)) (by rfl) T.g_common T.F_common.kp T.b_common (fun σ => passAt (takes_of rfl rfl rfl rfl) σ) (pa_cons (pv 1) (pa_cons (pv 1) pa_nil))))) pss_nil)
        (pss_cons (ps_if (pt_cmpR (kb_eq K (hu := hu)) (pv 0) pe_int (nomark _)) (pss_one (ps_ret (pe_callS (ok_met T) (hr.mono (by decide)) (by rfl) T.g_met T.F_met.kp T.b_met (fun σ => passAt (takes_of rfl rfl rfl rfl) σ) (pa_cons (pv 3) (pa_cons (pv 1) (pa_cons (pv 3) (pa_cons (pv 2) pa_nil))))))) pss_nil)
        (pss_cons (ps_if (pt_cmpR (kb_eq K (hu := hu)) (pv 0) pe_int (nomark _)) (pss_one (ps_ret (pe_callS (ok_met T) (hr.mono (by decide)) (by rfl) T.g_met T.F_met.kp T.b_met (fun σ => passAt (takes_of rfl rfl rfl rfl) σ) (pa_cons (pv 3) (pa_cons (pv 2) (pa_cons (pv 3) (pa_cons (pv 1) pa_nil))))))) pss_nil)
        (pss_cons (ps_if (pt_cmpR (kb_eq K (hu := hu)) (pv 0) pe_int (nomark _)) (pss_one (ps_ret (pe_callS (ok_ahead T) (hr.mono (by decide)) (by rfl) T.g_ahead T.F_ahead.kp T.b_ahead (fun σ => passAt (takes_of rfl rfl rfl rfl) σ) (pa_cons (pv 3) (pa_cons (pv 1) (pa_cons (pv 4) pa_nil)))))) pss_nil)
        (pss_one (ps_ret (pe_callS (ok_back T) (hr.mono (by decide)) (by rfl) T.g_back T.F_back.kp T.b_back (fun σ => passAt (takes_of rfl rfl rfl rfl) σ) (pa_cons (pv 3) (pa_cons (pv 1) (pa_cons (pv 4) pa_nil)))))))))))), ?_⟩
    with_reducible apply k_seqI
    walk_at "go"
    refine if_dec (fun _ => ?_) (fun _ => ?_)
    · walk_at "go"
      exact k_common (fun h => q0 (by omega)) sb3 sg3 fun h _ => q h _ _ (Same.refl _)
    walk_at "go"
    with_reducible apply k_seqI
    walk_at "go"
    refine if_dec (fun _ => ?_) (fun _ => ?_)
    · walk_at "go"
      exact k_common (fun h => q0 (by omega)) sg3 sb3 fun _ h => q h _ _ (Same.refl _)
    walk_at "go"
    with_reducible apply k_seqI
    walk_at "go"
    refine if_dec (fun _ => ?_) (fun _ => ?_)
    · walk_at "go"
      exact k_common (fun h => q0 (by omega)) sb3 sb3 fun _ h => q h _ _ (Same.refl _)
    walk_at "go"
    with_reducible apply k_seqI
    walk_at "go"
    refine if_dec (fun _ => ?_) (fun _ => ?_)
    · walk_at "go"
      exact k_met (fun h => q0 (by omega)) hb' hg' sr sr fun h _ => q h
    walk_at "go"
    with_reducible apply k_seqI
    walk_at "go"
    refine if_dec (fun _ => ?_) (fun _ => ?_)
    · walk_at "go"
      exact k_met (fun h => q0 (by omega)) hg' hb' sr sr fun _ h => q h
    walk_at "go"
    with_reducible apply k_seqI
    walk_at "go"
    refine if_dec (fun _ => ?_) (fun _ => ?_)
    · walk_at "go"
      exact k_ahead (fun h => q0 (by omega)) fun h => q h _ _ (Same.refl _)
    walk_at "go"
    exact k_back (fun h => q0 (by omega)) fun h => q h _ _ (Same.refl _)
theorem k_Lcall {T : Txt K mg} {H : Hp} {Q : VK} {E : XK} {y b g r d : Int} (q0 : b < 1 → E (.ref T.C_NoNumber) none H) (sb : Sm 190 b) (hg : 1 ≤ g) (sg : Sm 190 g) (hb' : b ≤ 1000000000000000000000000000000000000000000000000000000000000) (hg' : g ≤ 1000000000000000000000000000000000000000000000000000000000000) (sr : Sm 300 r) (q : 1 ≤ b → ∀ v H', Same H H' → Q v H') :
    sp_Lcall K T [.int y, .int b, .int g, .int r, .int d] H Q E := ⟨y, b, g, r, d, rfl, q0, sb, hg, sg, hb', hg', sr, q⟩

/-! ### _law_refused_by_any -/
def sp_Lrefused_by_any (K : PySem.W.Frag) : Sp := fun vs H Q _ => ∃ y b g r d : Int, vs = [.int y, .int b, .int g, .int r, .int d] ∧ Sm 190 b ∧ 1 ≤ g ∧ Sm 190 g ∧ b ≤ 1000000000000000000000000000000000000000000000000000000000000 ∧ g ≤ 1000000000000000000000000000000000000000000000000000000000000 ∧ Sm 300 r ∧ (∀ H', Same H H' → Q (.bl (decide (b < 1))) H')
theorem ok_Lrefused_by_any (T : Txt K mg) : FnOk P w K mg base CX0 5 T.a_Lrefused_by_any T.fd_Lrefused_by_any ["_law_way", "_law_bad", "_law_good", "_law_rest", "_law_day"] (sp_Lrefused_by_any K) := by
  refine T.F_Lrefused_by_any.ok sc_Lrefused_by_any (fun vs H Q E h => ?_) (fun cdv A outer s H vs Q E hr h => ?_)
  · obtain ⟨_, _, _, _, _, rfl, _⟩ := h; rfl
  · obtain ⟨y, b, g, r, d, rfl, sb, hg, sg, hb', hg', sr, q⟩ := h
    have hu := hr.units
    refine ⟨_, (pss_cons (ps_set (i := 5) sc_Lrefused_by_any.nd rfl (Or.inl rfl) pe_bl)
        (pss_cons (ps_try_only rfl rfl ⟨rfl, by decide, .inl T.gc_FeastError⟩ takes0 (fun W pn xe tk _ => (pss_one (ps_expr (pe_callS (ok_Lcall T) (hr.mono (by decide)) (by rfl) T.g_Lcall T.F_Lcall.kp T.b_Lcall (fun σ => passAt tk σ) (pa_cons (pv 0) (pa_cons (pv 1) (pa_cons (pv 2) (pa_cons (pv 3) (pa_cons (pv 4) pa_nil))))))))) (fun a oe cls d pn _ _ => (pss_one (ps_set (i := 5) sc_Lrefused_by_any.nd rfl (Or.inl rfl) pe_bl))))
        (pss_one (ps_ret (pv 5))))), ?_⟩
    walk_at "go"
    with_reducible apply k_seq
    show tDrop _ _ _ _
    walk_at "go"
    refine k_Lcall (fun hb => ?_) sb hg sg hb' hg' sr fun hb v H' hs => ?_
    · refine ⟨true, exm_of T.bc_FeastError T.ic_FeastError T.tc_FeastError T.sb_NoNumber_FeastError, fun _ a0 _ => ?_, fun q => Bool.noConfusion q⟩
      walk_at "go"
      have := q _ (Same.refl _)
      rw [decide_eq_true hb] at this
      exact this
    · walk_at "go"
      have := q _ hs
      rw [decide_eq_false (show ¬ b < 1 by omega)] at this
      exact this
theorem k_Lrefused_by_any {K : PySem.W.Frag} {H : Hp} {Q : VK} {E : XK} {y b g r d : Int} (sb : Sm 190 b) (hg : 1 ≤ g) (sg : Sm 190 g) (hb' : b ≤ 1000000000000000000000000000000000000000000000000000000000000) (hg' : g ≤ 1000000000000000000000000000000000000000000000000000000000000) (sr : Sm 300 r) (q : ∀ H', Same H H' → Q (.bl (decide (b < 1))) H') : sp_Lrefused_by_any K [.int y, .int b, .int g, .int r, .int d] H Q E := ⟨y, b, g, r, d, rfl, sb, hg, sg, hb', hg', sr, q⟩

/-! ### _law_other_kind -/
def sp_Lother_kind (K : PySem.W.Frag) (T : Txt K mg) : Addr × Obj → Sp := fun p vs H Q _ => vs = [.ref p.1] ∧ Zc (.ref T.C_NoNumber) none p.2 ∧ (∃ u, p.2.data = .fields u) ∧ Q (.bl false) H
theorem k_isV {T : Txt K mg} {H : Hp} {Q : VK} {C : Addr} {p : Addr × Obj} {b : Bool} (hz : Zc (.ref T.C_NoNumber) none p.2) (hf : ∃ u, p.2.data = .fields u) (h : PySem.W.kitOne K (.ref T.C_NoNumber) (.ref C) = some b) (q : Q (.bl b) H) : rIsV K p [.ref p.1, .ref C] H Q :=
  ⟨T.C_NoNumber, none, .ref C, .ref C, b, rfl, T.xc_NoNumber, hz, .inl rfl, hf, fun _ h => h, h, q⟩
theorem ok_Lother_kind (T : Txt K mg) : FnP P w K mg base CX0 1 T.a_Lother_kind T.fd_Lother_kind ["_law_e"] (sp_Lother_kind K T) := by
  refine Fun.okP T.F_Lother_kind sc_Lother_kind (fun p vs H Q E h => ?_) (fun cdv A outer s H vs Q E p hr h => ?_)
  · obtain ⟨rfl, _⟩ := h; rfl
  · obtain ⟨rfl, hz, hf, q⟩ := h
    refine ⟨_, (pss_cons (ps_if (PW.pt (pw_or (pt_val (pe_callB (call_isV rfl) (by rfl) T.n_isinstance (by decide +kernel) (pa_cons (pv 0) (pa_cons (pe_glob (v := .ref T.C_TooLong) rfl T.gc_TooLong rfl) pa_nil)))) (pw_or (pt_val (pe_callB (call_isV rfl) (by rfl) T.n_isinstance (by decide +kernel) (pa_cons (pv 0) (pa_cons (pe_glob (v := .ref T.C_NoMeasure) rfl T.gc_NoMeasure rfl) pa_nil)))) (pw_or (pt_val (pe_callB (call_isV rfl) (by rfl) T.n_isinstance (by decide +kernel) (pa_cons (pv 0) (pa_cons (pe_glob (v := .ref T.C_NoDate) rfl T.gc_NoDate rfl) pa_nil)))) (pw_or1 (pt_val (pe_callB (call_isV rfl) (by rfl) T.n_isinstance (by decide +kernel) (pa_cons (pv 0) (pa_cons (pe_glob (v := .ref T.C_InGap) rfl T.gc_InGap rfl) pa_nil))))))))) (pss_one (ps_ret pe_bl)) pss_nil)
        (pss_cons (ps_if (PW.pt (pw_or (pt_val (pe_callB (call_isV rfl) (by rfl) T.n_isinstance (by decide +kernel) (pa_cons (pv 0) (pa_cons (pe_glob (v := .ref T.C_NoChange) rfl T.gc_NoChange rfl) pa_nil)))) (pw_or (pt_val (pe_callB (call_isV rfl) (by rfl) T.n_isinstance (by decide +kernel) (pa_cons (pv 0) (pa_cons (pe_glob (v := .ref T.C_NoCycle) rfl T.gc_NoCycle rfl) pa_nil)))) (pw_or (pt_val (pe_callB (call_isV rfl) (by rfl) T.n_isinstance (by decide +kernel) (pa_cons (pv 0) (pa_cons (pe_glob (v := .ref T.C_NoText) rfl T.gc_NoText rfl) pa_nil)))) (pw_or1 (pt_val (pe_callB (call_isV rfl) (by rfl) T.n_isinstance (by decide +kernel) (pa_cons (pv 0) (pa_cons (pe_glob (v := .ref T.C_NoRule) rfl T.gc_NoRule rfl) pa_nil))))))))) (pss_one (ps_ret pe_bl)) pss_nil)
        (pss_one (ps_ret (pe_or (pe_callB (call_isV rfl) (by rfl) T.n_isinstance (by decide +kernel) (pa_cons (pv 0) (pa_cons (pe_glob (v := .ref T.C_NoName) rfl T.gc_NoName rfl) pa_nil))) (pe_one (pe_callB (call_isV rfl) (by rfl) T.n_isinstance (by decide +kernel) (pa_cons (pv 0) (pa_cons (pe_glob (v := .ref T.C_NoRow) rfl T.gc_NoRow rfl) pa_nil))))))))), ?_⟩
    with_reducible apply k_seqI
    walk_at "go"
    refine k_isV hz hf (kit_of T.ic_TooLong T.tc_TooLong T.sc_TooLong T.sb_NoNumber_TooLong) ?_
    refine ⟨false, rfl, ?_⟩
    walk_at "go"
    refine k_isV hz hf (kit_of T.ic_NoMeasure T.tc_NoMeasure T.sc_NoMeasure T.sb_NoNumber_NoMeasure) ?_
    refine ⟨false, rfl, ?_⟩
    walk_at "go"
    refine k_isV hz hf (kit_of T.ic_NoDate T.tc_NoDate T.sc_NoDate T.sb_NoNumber_NoDate) ?_
    refine ⟨false, rfl, ?_⟩
    walk_at "go"
    refine k_isV hz hf (kit_of T.ic_InGap T.tc_InGap T.sc_InGap T.sb_NoNumber_InGap) ?_
    refine ⟨false, rfl, ?_⟩
    walk_at "go"
    with_reducible apply k_seqI
    walk_at "go"
    refine k_isV hz hf (kit_of T.ic_NoChange T.tc_NoChange T.sc_NoChange T.sb_NoNumber_NoChange) ?_
    refine ⟨false, rfl, ?_⟩
    walk_at "go"
    refine k_isV hz hf (kit_of T.ic_NoCycle T.tc_NoCycle T.sc_NoCycle T.sb_NoNumber_NoCycle) ?_
    refine ⟨false, rfl, ?_⟩
    walk_at "go"
    refine k_isV hz hf (kit_of T.ic_NoText T.tc_NoText T.sc_NoText T.sb_NoNumber_NoText) ?_
    refine ⟨false, rfl, ?_⟩
    walk_at "go"
    refine k_isV hz hf (kit_of T.ic_NoRule T.tc_NoRule T.sc_NoRule T.sb_NoNumber_NoRule) ?_
    refine ⟨false, rfl, ?_⟩
    walk_at "go"
    refine k_isV hz hf (kit_of T.ic_NoName T.tc_NoName T.sc_NoName T.sb_NoNumber_NoName) ?_
    refine ⟨false, rfl, ?_⟩
    walk_at "go"
    refine k_isV hz hf (kit_of T.ic_NoRow T.tc_NoRow T.sc_NoRow T.sb_NoNumber_NoRow) ?_
    exact q
theorem k_Lother_kind {T : Txt K mg} {H : Hp} {Q : VK} {E : XK} {p : Addr × Obj} (hz : Zc (.ref T.C_NoNumber) none p.2) (hf : ∃ u, p.2.data = .fields u) (q : Q (.bl false) H) : sp_Lother_kind K T p [.ref p.1] H Q E := ⟨rfl, hz, hf, q⟩

/-! ### _law_refused -/
theorem k_isC {T : Txt K mg} {H : Hp} {Q : VK} {a : Addr} {c : V} {cv : Value} {b : Bool} (hcv : ∀ u, RelV c u → u = cv) (h : PySem.W.kitOne K (.ref T.C_NoNumber) cv = some b) (q : Q (.bl b) H) : rIsC K a (.ref T.C_NoNumber) none [.ref a, c] H Q :=
  ⟨T.C_NoNumber, c, cv, b, rfl, rfl, T.xc_NoNumber, .inl rfl, hcv, h, q⟩
theorem k_callV {sp : Addr × Obj → Sp} {a : Addr} {cls : Value} {d : Option Addr} {t : TA} {σ : L2.St} {H : Hp} {Q : VK} (h : t σ H fun vs H1 => ∀ oe : Obj, Zc cls d oe → (∃ u, oe.data = .fields u) → sp (a, oe) vs H1 Q (fun _ _ _ => False)) : tCallV a cls d sp t σ H Q := h
def sp_Lrefused (K : PySem.W.Frag) : Sp := fun vs H Q _ => ∃ y b g r d : Int, vs = [.int y, .int b, .int g, .int r, .int d] ∧ b < 1 ∧ Sm 190 b ∧ 1 ≤ g ∧ Sm 190 g ∧ b ≤ 1000000000000000000000000000000000000000000000000000000000000 ∧ g ≤ 1000000000000000000000000000000000000000000000000000000000000 ∧ Sm 300 r ∧ Q (.bl true) H
theorem ok_Lrefused (T : Txt K mg) : FnOk P w K mg base CX0 5 T.a_Lrefused T.fd_Lrefused ["_law_way", "_law_bad", "_law_good", "_law_rest", "_law_day"] (sp_Lrefused K) := by
  refine T.F_Lrefused.ok sc_Lrefused (fun vs H Q E h => ?_) (fun cdv A outer s H vs Q E hr h => ?_)
  · obtain ⟨_, _, _, _, _, rfl, _⟩ := h; rfl
  · obtain ⟨y, b, g, r, d, rfl, hb0, sb, hg, sg, hb', hg', sr, q⟩ := h
    have hu := hr.units
    refine ⟨_, (pss_cons (ps_set (i := 5) sc_Lrefused.nd rfl (Or.inl rfl) pe_bl)
        (pss_cons (ps_try_as (i := 6) rfl rfl sc_Lrefused.nd rfl rfl ⟨rfl, by decide, .inl T.gc_NoNumber⟩ takes0 (fun W pn xe tk _ => (pss_one (ps_expr (pe_callS (ok_Lcall T) (hr.mono (by decide)) (by rfl) T.g_Lcall T.F_Lcall.kp T.b_Lcall (fun σ => passAt tk σ) (pa_cons (pv 0) (pa_cons (pv 1) (pa_cons (pv 2) (pa_cons (pv 3) (pa_cons (pv 4) pa_nil))))))))) (fun a oe cls d pn hz hf => (pss_one (ps_set (i := 5) sc_Lrefused.nd rfl (Or.inl rfl) (pe_and (pe_callB (call_isC hz hf) (by rfl) T.n_isinstance (by decide +kernel) (pa_cons (pv 6) (pa_cons (pe_glob (v := .ref T.C_FeastError) rfl T.gc_FeastError rfl) pa_nil))) (pe_and (pe_callB (call_isC hz hf) (by rfl) T.n_isinstance (by decide +kernel) (pa_cons (pv 6) (pa_cons (pe_bltn (v := .ty "ValueError") (by rfl) T.n_ValueError (by decide +kernel) rfl) pa_nil))) (pe_one (pe_not (pe_callV hz hf (ok_Lother_kind T) (hr.mono (by decide)) (by rfl) T.g_Lother_kind T.F_Lother_kind.kp T.b_Lother_kind (fun _ _ _ _ _ z => z) (pa_cons (pv 6) pa_nil))))))))))
        (pss_one (ps_ret (pv 5))))), ?_⟩
    walk_at "go"
    with_reducible apply k_seq
    show tDrop _ _ _ _
    walk_at "go"
    refine k_Lcall (fun hb => ?_) sb hg sg hb' hg' sr fun hb v H' hs => by omega
    refine ⟨true, exm_of T.bc_NoNumber T.ic_NoNumber T.tc_NoNumber T.sc_NoNumber, fun _ a0 _ => ?_, fun q => Bool.noConfusion q⟩
    walk_at "go"
    refine k_isC (fun _ h => h) (kit_of T.ic_FeastError T.tc_FeastError T.sc_FeastError T.sb_NoNumber_FeastError) ?_
    refine ⟨true, rfl, ?_⟩
    walk_at "go"
    refine k_isC (fun _ h => h) (kit_ve T.sv_NoNumber) ?_
    refine ⟨true, rfl, ?_⟩
    walk_at "go"
    refine k_callV ?_
    walk_at "go"
    intro oe hz hf
    refine k_Lother_kind (p := (a0, oe)) hz hf ?_
    walk_at "go"
    exact q
theorem k_Lrefused {K : PySem.W.Frag} {H : Hp} {Q : VK} {E : XK} {y b g r d : Int} (hb0 : b < 1) (sb : Sm 190 b) (hg : 1 ≤ g) (sg : Sm 190 g) (hb' : b ≤ 1000000000000000000000000000000000000000000000000000000000000) (hg' : g ≤ 1000000000000000000000000000000000000000000000000000000000000) (sr : Sm 300 r) (q : Q (.bl true) H) : sp_Lrefused K [.int y, .int b, .int g, .int r, .int d] H Q E := ⟨y, b, g, r, d, rfl, hb0, sb, hg, sg, hb', hg', sr, q⟩

/-! ### law -/
def sp_law (K : PySem.W.Frag) : Sp := fun vs H Q _ => ∃ (a : Addr) (ns : List Int), vs = [.ref a] ∧ SqL K H a (ns.map V.int) ∧ ns.length ≤ 63 ∧ (∀ z ∈ ns, Builtin.Int.intBits z ≤ 1048576) ∧ ∀ H', Q (.bl true) H'
set_option pp.maxSteps 400 in
theorem ok_law (T : Txt K mg) : FnOk P w K mg base CX0 6 T.a_law T.fd_law ["_law_script"] (sp_law K) := by
  refine T.F_law.ok sc_law (fun vs H Q E h => ?_) (fun cdv A outer s H vs Q E hr h => ?_)
  · obtain ⟨_, _, rfl, _⟩ := h; rfl
  · obtain ⟨a, ns, rfl, hS, hl, hb, q⟩ := h
    have hu := hr.units
    refine ⟨_, (pss_cons (ps_set (i := 1) sc_law.nd rfl (Or.inl rfl) (pe_op op_mod (pe_call (ok_Lcell_at T) (hr.mono (by decide)) (by rfl) T.g_Lcell_at T.F_Lcell_at.kp T.b_Lcell_at .nil pass0 (pa_cons (pv 0) (pa_cons pe_int pa_nil))) pe_int))
        (pss_cons (ps_set (i := 2) sc_law.nd rfl (Or.inl rfl) (pe_un un_neg (pe_op op_mod (pe_call (ok_Lcell_at T) (hr.mono (by decide)) (by rfl) T.g_Lcell_at T.F_Lcell_at.kp T.b_Lcell_at .nil pass0 (pa_cons (pv 0) (pa_cons pe_int pa_nil))) (pe_powc (n := 10000000000000000000000000000000000000000) (by decide +kernel)))))
        (pss_cons (ps_if (pt_cmpR (kb_eq K (hu := hu)) (pe_op op_mod (pe_op op_fdivW (pe_call (ok_Lcell_at T) (hr.mono (by decide)) (by rfl) T.g_Lcell_at T.F_Lcell_at.kp T.b_Lcell_at .nil pass0 (pa_cons (pv 0) (pa_cons pe_int pa_nil))) pe_int) pe_int) pe_int (nomark _)) (pss_one (ps_set (i := 2) sc_law.nd rfl (Or.inl rfl) pe_int)) pss_nil)
        (pss_cons (ps_set (i := 3) sc_law.nd rfl (Or.inl rfl) (pe_op op_addA pe_int (pe_op op_mod (pe_call (ok_Lcell_at T) (hr.mono (by decide)) (by rfl) T.g_Lcell_at T.F_Lcell_at.kp T.b_Lcell_at .nil pass0 (pa_cons (pv 0) (pa_cons pe_int pa_nil))) (pe_powc (n := 10000000000000000000000000000000000000000) (by decide +kernel)))))
        (pss_cons (ps_set (i := 4) sc_law.nd rfl (Or.inl rfl) (pe_op op_sub (pe_op op_mod (pe_call (ok_Lcell_at T) (hr.mono (by decide)) (by rfl) T.g_Lcell_at T.F_Lcell_at.kp T.b_Lcell_at .nil pass0 (pa_cons (pv 0) (pa_cons pe_int pa_nil))) (pe_powc (n := 10000000000000000000000000000000000000000) (by decide +kernel))) (pe_powc (n := 1000000000000000000000000000000000000000) (by decide +kernel))))
        (pss_cons (ps_set (i := 5) sc_law.nd rfl (Or.inl rfl) (pe_op op_sub (pe_op op_mod (pe_call (ok_Lcell_at T) (hr.mono (by decide)) (by rfl) T.g_Lcell_at T.F_Lcell_at.kp T.b_Lcell_at .nil pass0 (pa_cons (pv 0) (pa_cons pe_int pa_nil))) (pe_powc (n := 10000000000000000000000000000000000000000) (by decide +kernel))) (pe_powc (n := 1000000000000000000000000000000000000000) (by decide +kernel))))
        (pss_cons (ps_if (PW.pt (pw_or (pt_not (pt_val (pe_call (ok_Lrefused T) (hr.mono (by decide)) (by rfl) T.g_Lrefused T.F_Lrefused.kp T.b_Lrefused .nil pass0 (pa_cons (pv 1) (pa_cons (pv 2) (pa_cons (pv 3) (pa_cons (pv 4) (pa_cons (pv 5) pa_nil)))))))) (pw_or1 (pt_not (pt_val (pe_call (ok_Lrefused_by_any T) (hr.mono (by decide)) (by rfl) T.g_Lrefused_by_any T.F_Lrefused_by_any.kp T.b_Lrefused_by_any .nil pass0 (pa_cons (pv 1) (pa_cons (pv 2) (pa_cons (pv 3) (pa_cons (pv 4) (pa_cons (pv 5) pa_nil))))))))))) (pss_one (ps_ret pe_bl)) pss_nil)
        (pss_one (ps_ret (pe_cmpR op_isBl (pe_call (ok_Lrefused_by_any T) (hr.mono (by decide)) (by rfl) T.g_Lrefused_by_any T.F_Lrefused_by_any.kp T.b_Lrefused_by_any .nil pass0 (pa_cons (pv 1) (pa_cons (pe_callB (cb_max2 rfl) (by rfl) T.n_max (by decide +kernel) (pa_cons pe_int (pa_cons (pe_un un_neg (pv 2)) pa_nil))) (pa_cons (pv 3) (pa_cons (pv 4) (pa_cons (pv 5) pa_nil)))))) pe_bl (nomark _))))))))))), ?_⟩
    walk_at "go"
    rename_i c0 _ _ c1 _ _
    have h1 := Int.emod_nonneg c1 (show (10000000000000000000000000000000000000000 : Int) ≠ 0 by decide)
    have h2 := Int.emod_lt_of_pos c1 (show (0 : Int) < 10000000000000000000000000000000000000000 by decide)
    with_reducible refine k_cutI (fun σ' H' => ∃ b : Int, σ' = [some (.ref a), some (.int (c0 % 7)), some (.int b), none, none, none] ∧ H = H' ∧ b ≤ 0 ∧ -10000000000000000000000000000000000000000 < b) (fun N hN => ?_) ?_
    · walk_at "go"; walk_at "br"
      all_goals (walk_at "go"; exact hN _ _ ⟨_, rfl, rfl, by omega, by omega⟩)
    rintro _ _ ⟨b, rfl, rfl, hb1, hb2⟩
    walk_at "go"
    rename_i c2 _ _ c3 _ _ c4 _ _
    have h3 := Int.emod_nonneg c2 (show (10000000000000000000000000000000000000000 : Int) ≠ 0 by decide)
    have h4 := Int.emod_lt_of_pos c2 (show (0 : Int) < 10000000000000000000000000000000000000000 by decide)
    have h5 := Int.emod_nonneg c3 (show (10000000000000000000000000000000000000000 : Int) ≠ 0 by decide)
    have h6 := Int.emod_lt_of_pos c3 (show (0 : Int) < 10000000000000000000000000000000000000000 by decide)
    generalize c2 % 10000000000000000000000000000000000000000 = g at *
    generalize c3 % 10000000000000000000000000000000000000000 = r at *
    have sb : Sm 190 b := sm190 (by omega) (by omega)
    have sg : Sm 190 (1 + g) := sm190 (by omega) (by omega)
    have sr : Sm 300 (r - 1000000000000000000000000000000000000000) := sm_mono (sm41 (by omega) (by omega)) (by decide)
    walk_at "run"
    refine k_Lrefused (by omega) sb (by omega) sg (by omega) (by omega) sr ?_
    walk_at "run"
    refine k_Lrefused_by_any sb (by omega) sg (by omega) (by omega) sr fun H1 _ => ?_
    rw [decide_eq_true (show b < 1 by omega)]
    walk_at "run"
    refine k_Lrefused_by_any (sm190 (by omega) (by omega)) (by omega) sg (by omega) (by omega) sr fun H2 _ => ?_
    rw [decide_eq_false (by omega)]
    exact ⟨_, _, rfl, rfl, q _⟩

end
theorem all_mk {l : PySem.W.OpenLaw} {w : World} {K : PySem.W.Frag} {h : Heap} {mg : Str → Option Value} {fa : Addr} (X : K.In h) (G : h.Ns mainGlobals mg) (hfa : mg "law" = some (.ref fa))
    {f_Lcell_at : Addr} {od_Lcell_at an_Lcell_at : Option Addr} {sl_Lcell_at : Array (Option Value)} {oc_Lcell_at kV_Lcell_at dc_Lcell_at pm_Lcell_at cd_Lcell_at ct_Lcell_at : Value}
    {f_sized : Addr} {od_sized an_sized : Option Addr} {sl_sized : Array (Option Value)} {oc_sized kV_sized dc_sized pm_sized cd_sized ct_sized : Value}
    {f_back : Addr} {od_back an_back : Option Addr} {sl_back : Array (Option Value)} {oc_back kV_back dc_back pm_back cd_back ct_back : Value}
    {f_divisor : Addr} {od_divisor an_divisor : Option Addr} {sl_divisor : Array (Option Value)} {oc_divisor kV_divisor dc_divisor pm_divisor cd_divisor ct_divisor : Value}
    {f_common : Addr} {od_common an_common : Option Addr} {sl_common : Array (Option Value)} {oc_common kV_common dc_common pm_common cd_common ct_common : Value}
    {f_equation : Addr} {od_equation an_equation : Option Addr} {sl_equation : Array (Option Value)} {oc_equation kV_equation dc_equation pm_equation cd_equation ct_equation : Value}
    {f_met : Addr} {od_met an_met : Option Addr} {sl_met : Array (Option Value)} {oc_met kV_met dc_met pm_met cd_met ct_met : Value}
    {f_ahead : Addr} {od_ahead an_ahead : Option Addr} {sl_ahead : Array (Option Value)} {oc_ahead kV_ahead dc_ahead pm_ahead cd_ahead ct_ahead : Value}
    {f_Lcall : Addr} {od_Lcall an_Lcall : Option Addr} {sl_Lcall : Array (Option Value)} {oc_Lcall kV_Lcall dc_Lcall pm_Lcall cd_Lcall ct_Lcall : Value}
    {f_Lrefused_by_any : Addr} {od_Lrefused_by_any an_Lrefused_by_any : Option Addr} {sl_Lrefused_by_any : Array (Option Value)} {oc_Lrefused_by_any kV_Lrefused_by_any dc_Lrefused_by_any pm_Lrefused_by_any cd_Lrefused_by_any ct_Lrefused_by_any : Value}
    {f_Lother_kind : Addr} {od_Lother_kind an_Lother_kind : Option Addr} {sl_Lother_kind : Array (Option Value)} {oc_Lother_kind kV_Lother_kind dc_Lother_kind pm_Lother_kind cd_Lother_kind ct_Lother_kind : Value}
    {f_Lrefused : Addr} {od_Lrefused an_Lrefused : Option Addr} {sl_Lrefused : Array (Option Value)} {oc_Lrefused kV_Lrefused dc_Lrefused pm_Lrefused cd_Lrefused ct_Lrefused : Value}
    {f_law : Addr} {od_law an_law : Option Addr} {sl_law : Array (Option Value)} {oc_law kV_law dc_law pm_law cd_law ct_law : Value}
    {C_NoNumber : Addr}
    {C_FeastError : Addr}
    {C_TooLong : Addr}
    {C_NoMeasure : Addr}
    {C_NoDate : Addr}
    {C_InGap : Addr}
    {C_NoChange : Addr}
    {C_NoCycle : Addr}
    {C_NoText : Addr}
    {C_NoRule : Addr}
    {C_NoName : Addr}
    {C_NoRow : Addr}
    (a_Lcell_at : PySem.W.nsIn K mainGlobals "_law_cell_at" = some (some (.ref f_Lcell_at)))
    (l_Lcell_at : K.lookup f_Lcell_at = some ⟨oc_Lcell_at, od_Lcell_at, .func (PySem.W.fnOf "_law_cell_at" "_law_cell_at" (defArgs s_Lcell_at) (defBody s_Lcell_at) (defScope s_Lcell_at) .none kV_Lcell_at dc_Lcell_at pm_Lcell_at an_Lcell_at cd_Lcell_at ct_Lcell_at), sl_Lcell_at⟩)
    (c_Lcell_at : PySem.W.codeIn K cd_Lcell_at "_law_cell_at" = true)
    (k_Lcell_at : PySem.W.keepIn K (.ref f_Lcell_at) = true)
    (a_sized : PySem.W.nsIn K mainGlobals "sized" = some (some (.ref f_sized)))
    (l_sized : K.lookup f_sized = some ⟨oc_sized, od_sized, .func (PySem.W.fnOf "sized" "sized" (defArgs s_sized) (defBody s_sized) (defScope s_sized) .none kV_sized dc_sized pm_sized an_sized cd_sized ct_sized), sl_sized⟩)
    (c_sized : PySem.W.codeIn K cd_sized "sized" = true)
    (k_sized : PySem.W.keepIn K (.ref f_sized) = true)
    (a_back : PySem.W.nsIn K mainGlobals "back" = some (some (.ref f_back)))
    (l_back : K.lookup f_back = some ⟨oc_back, od_back, .func (PySem.W.fnOf "back" "back" (defArgs s_back) (defBody s_back) (defScope s_back) .none kV_back dc_back pm_back an_back cd_back ct_back), sl_back⟩)
    (c_back : PySem.W.codeIn K cd_back "back" = true)
    (k_back : PySem.W.keepIn K (.ref f_back) = true)
    (a_divisor : PySem.W.nsIn K mainGlobals "divisor" = some (some (.ref f_divisor)))
    (l_divisor : K.lookup f_divisor = some ⟨oc_divisor, od_divisor, .func (PySem.W.fnOf "divisor" "divisor" (defArgs s_divisor) (defBody s_divisor) (defScope s_divisor) .none kV_divisor dc_divisor pm_divisor an_divisor cd_divisor ct_divisor), sl_divisor⟩)
    (c_divisor : PySem.W.codeIn K cd_divisor "divisor" = true)
    (k_divisor : PySem.W.keepIn K (.ref f_divisor) = true)
    (a_common : PySem.W.nsIn K mainGlobals "common" = some (some (.ref f_common)))
    (l_common : K.lookup f_common = some ⟨oc_common, od_common, .func (PySem.W.fnOf "common" "common" (defArgs s_common) (defBody s_common) (defScope s_common) .none kV_common dc_common pm_common an_common cd_common ct_common), sl_common⟩)
    (c_common : PySem.W.codeIn K cd_common "common" = true)
    (k_common : PySem.W.keepIn K (.ref f_common) = true)
    (a_equation : PySem.W.nsIn K mainGlobals "equation" = some (some (.ref f_equation)))
    (l_equation : K.lookup f_equation = some ⟨oc_equation, od_equation, .func (PySem.W.fnOf "equation" "equation" (defArgs s_equation) (defBody s_equation) (defScope s_equation) .none kV_equation dc_equation pm_equation an_equation cd_equation ct_equation), sl_equation⟩)
    (c_equation : PySem.W.codeIn K cd_equation "equation" = true)
    (k_equation : PySem.W.keepIn K (.ref f_equation) = true)
    (a_met : PySem.W.nsIn K mainGlobals "met" = some (some (.ref f_met)))
    (l_met : K.lookup f_met = some ⟨oc_met, od_met, .func (PySem.W.fnOf "met" "met" (defArgs s_met) (defBody s_met) (defScope s_met) .none kV_met dc_met pm_met an_met cd_met ct_met), sl_met⟩)
    (c_met : PySem.W.codeIn K cd_met "met" = true)
    (k_met : PySem.W.keepIn K (.ref f_met) = true)
    (a_ahead : PySem.W.nsIn K mainGlobals "ahead" = some (some (.ref f_ahead)))
    (l_ahead : K.lookup f_ahead = some ⟨oc_ahead, od_ahead, .func (PySem.W.fnOf "ahead" "ahead" (defArgs s_ahead) (defBody s_ahead) (defScope s_ahead) .none kV_ahead dc_ahead pm_ahead an_ahead cd_ahead ct_ahead), sl_ahead⟩)
    (c_ahead : PySem.W.codeIn K cd_ahead "ahead" = true)
    (k_ahead : PySem.W.keepIn K (.ref f_ahead) = true)
    (a_Lcall : PySem.W.nsIn K mainGlobals "_law_call" = some (some (.ref f_Lcall)))
    (l_Lcall : K.lookup f_Lcall = some ⟨oc_Lcall, od_Lcall, .func (PySem.W.fnOf "_law_call" "_law_call" (defArgs s_Lcall) (defBody s_Lcall) (defScope s_Lcall) .none kV_Lcall dc_Lcall pm_Lcall an_Lcall cd_Lcall ct_Lcall), sl_Lcall⟩)
    (c_Lcall : PySem.W.codeIn K cd_Lcall "_law_call" = true)
    (k_Lcall : PySem.W.keepIn K (.ref f_Lcall) = true)
    (a_Lrefused_by_any : PySem.W.nsIn K mainGlobals "_law_refused_by_any" = some (some (.ref f_Lrefused_by_any)))
    (l_Lrefused_by_any : K.lookup f_Lrefused_by_any = some ⟨oc_Lrefused_by_any, od_Lrefused_by_any, .func (PySem.W.fnOf "_law_refused_by_any" "_law_refused_by_any" (defArgs s_Lrefused_by_any) (defBody s_Lrefused_by_any) (defScope s_Lrefused_by_any) .none kV_Lrefused_by_any dc_Lrefused_by_any pm_Lrefused_by_any an_Lrefused_by_any cd_Lrefused_by_any ct_Lrefused_by_any), sl_Lrefused_by_any⟩)
    (c_Lrefused_by_any : PySem.W.codeIn K cd_Lrefused_by_any "_law_refused_by_any" = true)
    (k_Lrefused_by_any : PySem.W.keepIn K (.ref f_Lrefused_by_any) = true)
    (a_Lother_kind : PySem.W.nsIn K mainGlobals "_law_other_kind" = some (some (.ref f_Lother_kind)))
    (l_Lother_kind : K.lookup f_Lother_kind = some ⟨oc_Lother_kind, od_Lother_kind, .func (PySem.W.fnOf "_law_other_kind" "_law_other_kind" (defArgs s_Lother_kind) (defBody s_Lother_kind) (defScope s_Lother_kind) .none kV_Lother_kind dc_Lother_kind pm_Lother_kind an_Lother_kind cd_Lother_kind ct_Lother_kind), sl_Lother_kind⟩)
    (c_Lother_kind : PySem.W.codeIn K cd_Lother_kind "_law_other_kind" = true)
    (k_Lother_kind : PySem.W.keepIn K (.ref f_Lother_kind) = true)
    (a_Lrefused : PySem.W.nsIn K mainGlobals "_law_refused" = some (some (.ref f_Lrefused)))
    (l_Lrefused : K.lookup f_Lrefused = some ⟨oc_Lrefused, od_Lrefused, .func (PySem.W.fnOf "_law_refused" "_law_refused" (defArgs s_Lrefused) (defBody s_Lrefused) (defScope s_Lrefused) .none kV_Lrefused dc_Lrefused pm_Lrefused an_Lrefused cd_Lrefused ct_Lrefused), sl_Lrefused⟩)
    (c_Lrefused : PySem.W.codeIn K cd_Lrefused "_law_refused" = true)
    (k_Lrefused : PySem.W.keepIn K (.ref f_Lrefused) = true)
    (a_law : PySem.W.nsIn K mainGlobals "law" = some (some (.ref f_law)))
    (l_law : K.lookup f_law = some ⟨oc_law, od_law, .func (PySem.W.fnOf "law" "law" (defArgs s_law) (defBody s_law) (defScope s_law) .none kV_law dc_law pm_law an_law cd_law ct_law), sl_law⟩)
    (c_law : PySem.W.codeIn K cd_law "law" = true)
    (k_law : PySem.W.keepIn K (.ref f_law) = true)
    (z_ValueError : PySem.W.nsIn K mainGlobals "ValueError" = some none)
    (z_abs : PySem.W.nsIn K mainGlobals "abs" = some none)
    (z_isinstance : PySem.W.nsIn K mainGlobals "isinstance" = some none)
    (z_len : PySem.W.nsIn K mainGlobals "len" = some none)
    (z_max : PySem.W.nsIn K mainGlobals "max" = some none)
    (z_range : PySem.W.nsIn K mainGlobals "range" = some none)
    (gc_NoNumber : PySem.W.nsIn K mainGlobals "NoNumber" = some (some (.ref C_NoNumber)))
    (x_NoNumber : PySem.W.excIn K C_NoNumber [.type "ValueError", .type "Exception", .type "BaseException", .type "object"] "ValueError.__new__" = true)
    (kc_NoNumber : PySem.W.keepIn K (.ref C_NoNumber) = true)
    (bc_NoNumber : PySem.W.subIn K (.ref C_NoNumber) (.type "BaseException") = some true)
    (tc_NoNumber : PySem.W.typeIn K (.ref C_NoNumber) = some (.type "type"))
    (ic_NoNumber : PySem.W.isClsIn K C_NoNumber = true)
    (sc_NoNumber : PySem.W.subIn K (.ref C_NoNumber) (.ref C_NoNumber) = some true)
    (gc_FeastError : PySem.W.nsIn K mainGlobals "FeastError" = some (some (.ref C_FeastError)))
    (kc_FeastError : PySem.W.keepIn K (.ref C_FeastError) = true)
    (bc_FeastError : PySem.W.subIn K (.ref C_FeastError) (.type "BaseException") = some true)
    (tc_FeastError : PySem.W.typeIn K (.ref C_FeastError) = some (.type "type"))
    (ic_FeastError : PySem.W.isClsIn K C_FeastError = true)
    (sc_FeastError : PySem.W.subIn K (.ref C_FeastError) (.ref C_FeastError) = some true)
    (gc_TooLong : PySem.W.nsIn K mainGlobals "TooLong" = some (some (.ref C_TooLong)))
    (kc_TooLong : PySem.W.keepIn K (.ref C_TooLong) = true)
    (bc_TooLong : PySem.W.subIn K (.ref C_TooLong) (.type "BaseException") = some true)
    (tc_TooLong : PySem.W.typeIn K (.ref C_TooLong) = some (.type "type"))
    (ic_TooLong : PySem.W.isClsIn K C_TooLong = true)
    (sc_TooLong : PySem.W.subIn K (.ref C_TooLong) (.ref C_TooLong) = some true)
    (gc_NoMeasure : PySem.W.nsIn K mainGlobals "NoMeasure" = some (some (.ref C_NoMeasure)))
    (kc_NoMeasure : PySem.W.keepIn K (.ref C_NoMeasure) = true)
    (bc_NoMeasure : PySem.W.subIn K (.ref C_NoMeasure) (.type "BaseException") = some true)
    (tc_NoMeasure : PySem.W.typeIn K (.ref C_NoMeasure) = some (.type "type"))
    (ic_NoMeasure : PySem.W.isClsIn K C_NoMeasure = true)
    (sc_NoMeasure : PySem.W.subIn K (.ref C_NoMeasure) (.ref C_NoMeasure) = some true)
    (gc_NoDate : PySem.W.nsIn K mainGlobals "NoDate" = some (some (.ref C_NoDate)))
    (kc_NoDate : PySem.W.keepIn K (.ref C_NoDate) = true)
    (bc_NoDate : PySem.W.subIn K (.ref C_NoDate) (.type "BaseException") = some true)
    (tc_NoDate : PySem.W.typeIn K (.ref C_NoDate) = some (.type "type"))
    (ic_NoDate : PySem.W.isClsIn K C_NoDate = true)
    (sc_NoDate : PySem.W.subIn K (.ref C_NoDate) (.ref C_NoDate) = some true)
    (gc_InGap : PySem.W.nsIn K mainGlobals "InGap" = some (some (.ref C_InGap)))
    (kc_InGap : PySem.W.keepIn K (.ref C_InGap) = true)
    (bc_InGap : PySem.W.subIn K (.ref C_InGap) (.type "BaseException") = some true)
    (tc_InGap : PySem.W.typeIn K (.ref C_InGap) = some (.type "type"))
    (ic_InGap : PySem.W.isClsIn K C_InGap = true)
    (sc_InGap : PySem.W.subIn K (.ref C_InGap) (.ref C_InGap) = some true)
    (gc_NoChange : PySem.W.nsIn K mainGlobals "NoChange" = some (some (.ref C_NoChange)))
    (kc_NoChange : PySem.W.keepIn K (.ref C_NoChange) = true)
    (bc_NoChange : PySem.W.subIn K (.ref C_NoChange) (.type "BaseException") = some true)
    (tc_NoChange : PySem.W.typeIn K (.ref C_NoChange) = some (.type "type"))
    (ic_NoChange : PySem.W.isClsIn K C_NoChange = true)
    (sc_NoChange : PySem.W.subIn K (.ref C_NoChange) (.ref C_NoChange) = some true)
    (gc_NoCycle : PySem.W.nsIn K mainGlobals "NoCycle" = some (some (.ref C_NoCycle)))
    (kc_NoCycle : PySem.W.keepIn K (.ref C_NoCycle) = true)
    (bc_NoCycle : PySem.W.subIn K (.ref C_NoCycle) (.type "BaseException") = some true)
    (tc_NoCycle : PySem.W.typeIn K (.ref C_NoCycle) = some (.type "type"))
    (ic_NoCycle : PySem.W.isClsIn K C_NoCycle = true)
    (sc_NoCycle : PySem.W.subIn K (.ref C_NoCycle) (.ref C_NoCycle) = some true)
    (gc_NoText : PySem.W.nsIn K mainGlobals "NoText" = some (some (.ref C_NoText)))
    (kc_NoText : PySem.W.keepIn K (.ref C_NoText) = true)
    (bc_NoText : PySem.W.subIn K (.ref C_NoText) (.type "BaseException") = some true)
    (tc_NoText : PySem.W.typeIn K (.ref C_NoText) = some (.type "type"))
    (ic_NoText : PySem.W.isClsIn K C_NoText = true)
    (sc_NoText : PySem.W.subIn K (.ref C_NoText) (.ref C_NoText) = some true)
    (gc_NoRule : PySem.W.nsIn K mainGlobals "NoRule" = some (some (.ref C_NoRule)))
    (kc_NoRule : PySem.W.keepIn K (.ref C_NoRule) = true)
    (bc_NoRule : PySem.W.subIn K (.ref C_NoRule) (.type "BaseException") = some true)
    (tc_NoRule : PySem.W.typeIn K (.ref C_NoRule) = some (.type "type"))
    (ic_NoRule : PySem.W.isClsIn K C_NoRule = true)
    (sc_NoRule : PySem.W.subIn K (.ref C_NoRule) (.ref C_NoRule) = some true)
    (gc_NoName : PySem.W.nsIn K mainGlobals "NoName" = some (some (.ref C_NoName)))
    (kc_NoName : PySem.W.keepIn K (.ref C_NoName) = true)
    (bc_NoName : PySem.W.subIn K (.ref C_NoName) (.type "BaseException") = some true)
    (tc_NoName : PySem.W.typeIn K (.ref C_NoName) = some (.type "type"))
    (ic_NoName : PySem.W.isClsIn K C_NoName = true)
    (sc_NoName : PySem.W.subIn K (.ref C_NoName) (.ref C_NoName) = some true)
    (gc_NoRow : PySem.W.nsIn K mainGlobals "NoRow" = some (some (.ref C_NoRow)))
    (kc_NoRow : PySem.W.keepIn K (.ref C_NoRow) = true)
    (bc_NoRow : PySem.W.subIn K (.ref C_NoRow) (.type "BaseException") = some true)
    (tc_NoRow : PySem.W.typeIn K (.ref C_NoRow) = some (.type "type"))
    (ic_NoRow : PySem.W.isClsIn K C_NoRow = true)
    (sc_NoRow : PySem.W.subIn K (.ref C_NoRow) (.ref C_NoRow) = some true)
    (sb_NoNumber_FeastError : PySem.W.subIn K (.ref C_NoNumber) (.ref C_FeastError) = some true)
    (sb_NoNumber_TooLong : PySem.W.subIn K (.ref C_NoNumber) (.ref C_TooLong) = some false)
    (sb_NoNumber_NoMeasure : PySem.W.subIn K (.ref C_NoNumber) (.ref C_NoMeasure) = some false)
    (sb_NoNumber_NoDate : PySem.W.subIn K (.ref C_NoNumber) (.ref C_NoDate) = some false)
    (sb_NoNumber_InGap : PySem.W.subIn K (.ref C_NoNumber) (.ref C_InGap) = some false)
    (sb_NoNumber_NoChange : PySem.W.subIn K (.ref C_NoNumber) (.ref C_NoChange) = some false)
    (sb_NoNumber_NoCycle : PySem.W.subIn K (.ref C_NoNumber) (.ref C_NoCycle) = some false)
    (sb_NoNumber_NoText : PySem.W.subIn K (.ref C_NoNumber) (.ref C_NoText) = some false)
    (sb_NoNumber_NoRule : PySem.W.subIn K (.ref C_NoNumber) (.ref C_NoRule) = some false)
    (sb_NoNumber_NoName : PySem.W.subIn K (.ref C_NoNumber) (.ref C_NoName) = some false)
    (sb_NoNumber_NoRow : PySem.W.subIn K (.ref C_NoNumber) (.ref C_NoRow) = some false)
    (xc_NoNumber : ExcC K C_NoNumber)
    (sv_NoNumber : PySem.W.subIn K (.ref C_NoNumber) (.type "ValueError") = some true) :
    ∃ fd : FuncData, (∀ (s : Shared) (v : Value), BindsTo s fd ⟨[v], []⟩ [("_law_script", v)]) ∧ ∀ base : Heap, K.In base → base.Ns mainGlobals mg → FnOk l.prog w K mg base CX0 6 fa fd ["_law_script"] (sp_law K) := by
  have e := hfa.symm.trans (PySem.W.mg_of X G a_law)
  cases e
  have F_Lcell_at := fun_mk (st := s_Lcell_at) l_Lcell_at c_Lcell_at k_Lcell_at
  have b_Lcell_at := F_Lcell_at.binds (ps := ["_law_script", "_law_k"]) fun _ _ _ _ _ _ us hl => match us, hl with | [_, _], _ => rfl
  have F_sized := fun_mk (st := s_sized) l_sized c_sized k_sized
  have b_sized := F_sized.binds (ps := ["size"]) fun _ _ _ _ _ _ us hl => match us, hl with | [_], _ => rfl
  have F_back := fun_mk (st := s_back) l_back c_back k_back
  have b_back := F_back.binds (ps := ["rest", "size", "day"]) fun _ _ _ _ _ _ us hl => match us, hl with | [_, _, _], _ => rfl
  have F_divisor := fun_mk (st := s_divisor) l_divisor c_divisor k_divisor
  have b_divisor := F_divisor.binds (ps := ["one", "other"]) fun _ _ _ _ _ _ us hl => match us, hl with | [_, _], _ => rfl
  have F_common := fun_mk (st := s_common) l_common c_common k_common
  have b_common := F_common.binds (ps := ["one", "other"]) fun _ _ _ _ _ _ us hl => match us, hl with | [_, _], _ => rfl
  have F_equation := fun_mk (st := s_equation) l_equation c_equation k_equation
  have b_equation := F_equation.binds (ps := ["one", "other"]) fun _ _ _ _ _ _ us hl => match us, hl with | [_, _], _ => rfl
  have F_met := fun_mk (st := s_met) l_met c_met k_met
  have b_met := F_met.binds (ps := ["rest", "size", "other_rest", "other_size"]) fun _ _ _ _ _ _ us hl => match us, hl with | [_, _, _, _], _ => rfl
  have F_ahead := fun_mk (st := s_ahead) l_ahead c_ahead k_ahead
  have b_ahead := F_ahead.binds (ps := ["rest", "size", "day"]) fun _ _ _ _ _ _ us hl => match us, hl with | [_, _, _], _ => rfl
  have F_Lcall := fun_mk (st := s_Lcall) l_Lcall c_Lcall k_Lcall
  have b_Lcall := F_Lcall.binds (ps := ["_law_way", "_law_bad", "_law_good", "_law_rest", "_law_day"]) fun _ _ _ _ _ _ us hl => match us, hl with | [_, _, _, _, _], _ => rfl
  have F_Lrefused_by_any := fun_mk (st := s_Lrefused_by_any) l_Lrefused_by_any c_Lrefused_by_any k_Lrefused_by_any
  have b_Lrefused_by_any := F_Lrefused_by_any.binds (ps := ["_law_way", "_law_bad", "_law_good", "_law_rest", "_law_day"]) fun _ _ _ _ _ _ us hl => match us, hl with | [_, _, _, _, _], _ => rfl
  have F_Lother_kind := fun_mk (st := s_Lother_kind) l_Lother_kind c_Lother_kind k_Lother_kind
  have b_Lother_kind := F_Lother_kind.binds (ps := ["_law_e"]) fun _ _ _ _ _ _ us hl => match us, hl with | [_], _ => rfl
  have F_Lrefused := fun_mk (st := s_Lrefused) l_Lrefused c_Lrefused k_Lrefused
  have b_Lrefused := F_Lrefused.binds (ps := ["_law_way", "_law_bad", "_law_good", "_law_rest", "_law_day"]) fun _ _ _ _ _ _ us hl => match us, hl with | [_, _, _, _, _], _ => rfl
  have F_law := fun_mk (st := s_law) l_law c_law k_law
  have b_law := F_law.binds (ps := ["_law_script"]) fun _ _ _ _ _ _ us hl => match us, hl with | [_], _ => rfl
  exact ⟨_, fun s v => .of_eq rfl, fun base _ _ => ok_law (⟨_, _, F_Lcell_at, (PySem.W.mg_of X G a_Lcell_at), b_Lcell_at, _, _, F_sized, (PySem.W.mg_of X G a_sized), b_sized, _, _, F_back, (PySem.W.mg_of X G a_back), b_back, _, _, F_divisor, (PySem.W.mg_of X G a_divisor), b_divisor, _, _, F_common, (PySem.W.mg_of X G a_common), b_common, _, _, F_equation, (PySem.W.mg_of X G a_equation), b_equation, _, _, F_met, (PySem.W.mg_of X G a_met), b_met, _, _, F_ahead, (PySem.W.mg_of X G a_ahead), b_ahead, _, _, F_Lcall, (PySem.W.mg_of X G a_Lcall), b_Lcall, _, _, F_Lrefused_by_any, (PySem.W.mg_of X G a_Lrefused_by_any), b_Lrefused_by_any, _, _, F_Lother_kind, (PySem.W.mg_of X G a_Lother_kind), b_Lother_kind, _, _, F_Lrefused, (PySem.W.mg_of X G a_Lrefused), b_Lrefused, _, _, F_law, (PySem.W.mg_of X G a_law), b_law, (PySem.W.mg_none_of X G z_ValueError), (PySem.W.mg_none_of X G z_abs), (PySem.W.mg_none_of X G z_isinstance), (PySem.W.mg_none_of X G z_len), (PySem.W.mg_none_of X G z_max), (PySem.W.mg_none_of X G z_range), _, (PySem.W.mg_of X G gc_NoNumber), x_NoNumber, kc_NoNumber, bc_NoNumber, tc_NoNumber, ic_NoNumber, sc_NoNumber, _, (PySem.W.mg_of X G gc_FeastError), kc_FeastError, bc_FeastError, tc_FeastError, ic_FeastError, sc_FeastError, _, (PySem.W.mg_of X G gc_TooLong), kc_TooLong, bc_TooLong, tc_TooLong, ic_TooLong, sc_TooLong, _, (PySem.W.mg_of X G gc_NoMeasure), kc_NoMeasure, bc_NoMeasure, tc_NoMeasure, ic_NoMeasure, sc_NoMeasure, _, (PySem.W.mg_of X G gc_NoDate), kc_NoDate, bc_NoDate, tc_NoDate, ic_NoDate, sc_NoDate, _, (PySem.W.mg_of X G gc_InGap), kc_InGap, bc_InGap, tc_InGap, ic_InGap, sc_InGap, _, (PySem.W.mg_of X G gc_NoChange), kc_NoChange, bc_NoChange, tc_NoChange, ic_NoChange, sc_NoChange, _, (PySem.W.mg_of X G gc_NoCycle), kc_NoCycle, bc_NoCycle, tc_NoCycle, ic_NoCycle, sc_NoCycle, _, (PySem.W.mg_of X G gc_NoText), kc_NoText, bc_NoText, tc_NoText, ic_NoText, sc_NoText, _, (PySem.W.mg_of X G gc_NoRule), kc_NoRule, bc_NoRule, tc_NoRule, ic_NoRule, sc_NoRule, _, (PySem.W.mg_of X G gc_NoName), kc_NoName, bc_NoName, tc_NoName, ic_NoName, sc_NoName, _, (PySem.W.mg_of X G gc_NoRow), kc_NoRow, bc_NoRow, tc_NoRow, ic_NoRow, sc_NoRow, sb_NoNumber_FeastError, sb_NoNumber_TooLong, sb_NoNumber_NoMeasure, sb_NoNumber_NoDate, sb_NoNumber_InGap, sb_NoNumber_NoChange, sb_NoNumber_NoCycle, sb_NoNumber_NoText, sb_NoNumber_NoRule, sb_NoNumber_NoName, sb_NoNumber_NoRow, xc_NoNumber, sv_NoNumber⟩ : Txt K mg)⟩
end FW
open PySem PySem.W PyProof.Rows
set_option maxRecDepth 100000 in
set_option maxHeartbeats 0 in
theorem PySem.Challenge.cw_feastwheel_k05_sizes_refused_holds : PySem.Challenge.rw_feastwheel_k05_sizes_refused.Holds := by
  w_on; o_law; k_head; (case hw => w_witness2)
  k_fill
  refine L2.walk_ofB (l := PySem.Challenge.rw_feastwheel_k05_sizes_refused) (n := 63) (k := 6) (x := "_law_script") (CX := fun _ => L2.CX0) (sp := fun w => FW.sp_law _) rfl (by decide) rfl ⟨rfl, by decide, by decide⟩ (fun w h Y => PySem.W.kIn_of Y) ?F (fun _ _ a ns hl hb _ hS => ⟨a, ns, rfl, hS, hl, hb, fun _ => rfl⟩) (fun _ _ _ _ _ h => h)
  case F =>
    intro w mg fa h KX G hmg
    refine' FW.all_mk KX G hmg ?a_Lcell_at ?l_Lcell_at ?c_Lcell_at ?k_Lcell_at ?a_sized ?l_sized ?c_sized ?k_sized ?a_back ?l_back ?c_back ?k_back ?a_divisor ?l_divisor ?c_divisor ?k_divisor ?a_common ?l_common ?c_common ?k_common ?a_equation ?l_equation ?c_equation ?k_equation ?a_met ?l_met ?c_met ?k_met ?a_ahead ?l_ahead ?c_ahead ?k_ahead ?a_Lcall ?l_Lcall ?c_Lcall ?k_Lcall ?a_Lrefused_by_any ?l_Lrefused_by_any ?c_Lrefused_by_any ?k_Lrefused_by_any ?a_Lother_kind ?l_Lother_kind ?c_Lother_kind ?k_Lother_kind ?a_Lrefused ?l_Lrefused ?c_Lrefused ?k_Lrefused ?a_law ?l_law ?c_law ?k_law ?z_ValueError ?z_abs ?z_isinstance ?z_len ?z_max ?z_range ?gc_NoNumber ?x_NoNumber ?kc_NoNumber ?bc_NoNumber ?tc_NoNumber ?ic_NoNumber ?sc_NoNumber ?gc_FeastError ?kc_FeastError ?bc_FeastError ?tc_FeastError ?ic_FeastError ?sc_FeastError ?gc_TooLong ?kc_TooLong ?bc_TooLong ?tc_TooLong ?ic_TooLong ?sc_TooLong ?gc_NoMeasure ?kc_NoMeasure ?bc_NoMeasure ?tc_NoMeasure ?ic_NoMeasure ?sc_NoMeasure ?gc_NoDate ?kc_NoDate ?bc_NoDate ?tc_NoDate ?ic_NoDate ?sc_NoDate ?gc_InGap ?kc_InGap ?bc_InGap ?tc_InGap ?ic_InGap ?sc_InGap ?gc_NoChange ?kc_NoChange ?bc_NoChange ?tc_NoChange ?ic_NoChange ?sc_NoChange ?gc_NoCycle ?kc_NoCycle ?bc_NoCycle ?tc_NoCycle ?ic_NoCycle ?sc_NoCycle ?gc_NoText ?kc_NoText ?bc_NoText ?tc_NoText ?ic_NoText ?sc_NoText ?gc_NoRule ?kc_NoRule ?bc_NoRule ?tc_NoRule ?ic_NoRule ?sc_NoRule ?gc_NoName ?kc_NoName ?bc_NoName ?tc_NoName ?ic_NoName ?sc_NoName ?gc_NoRow ?kc_NoRow ?bc_NoRow ?tc_NoRow ?ic_NoRow ?sc_NoRow ?sb_NoNumber_FeastError ?sb_NoNumber_TooLong ?sb_NoNumber_NoMeasure ?sb_NoNumber_NoDate ?sb_NoNumber_InGap ?sb_NoNumber_NoChange ?sb_NoNumber_NoCycle ?sb_NoNumber_NoText ?sb_NoNumber_NoRule ?sb_NoNumber_NoName ?sb_NoNumber_NoRow ?xc_NoNumber ?sv_NoNumber
    (case a_Lcell_at => first | k_is | rfl)
    (case l_Lcell_at => first | k_is | rfl)
    (case c_Lcell_at => first | k_is | rfl)
    (case k_Lcell_at => first | k_is | rfl)
    (case a_sized => first | k_is | rfl)
    (case l_sized => first | k_is | rfl)
    (case c_sized => first | k_is | rfl)
    (case k_sized => first | k_is | rfl)
    (case a_back => first | k_is | rfl)
    (case l_back => first | k_is | rfl)
    (case c_back => first | k_is | rfl)
    (case k_back => first | k_is | rfl)
    (case a_divisor => first | k_is | rfl)
    (case l_divisor => first | k_is | rfl)
    (case c_divisor => first | k_is | rfl)
    (case k_divisor => first | k_is | rfl)
    (case a_common => first | k_is | rfl)
    (case l_common => first | k_is | rfl)
    (case c_common => first | k_is | rfl)
    (case k_common => first | k_is | rfl)
    (case a_equation => first | k_is | rfl)
    (case l_equation => first | k_is | rfl)
    (case c_equation => first | k_is | rfl)
    (case k_equation => first | k_is | rfl)
    (case a_met => first | k_is | rfl)
    (case l_met => first | k_is | rfl)
    (case c_met => first | k_is | rfl)
    (case k_met => first | k_is | rfl)
    (case a_ahead => first | k_is | rfl)
    (case l_ahead => first | k_is | rfl)
    (case c_ahead => first | k_is | rfl)
    (case k_ahead => first | k_is | rfl)
    (case a_Lcall => first | k_is | rfl)
    (case l_Lcall => first | k_is | rfl)
    (case c_Lcall => first | k_is | rfl)
    (case k_Lcall => first | k_is | rfl)
    (case a_Lrefused_by_any => first | k_is | rfl)
    (case l_Lrefused_by_any => first | k_is | rfl)
    (case c_Lrefused_by_any => first | k_is | rfl)
    (case k_Lrefused_by_any => first | k_is | rfl)
    (case a_Lother_kind => first | k_is | rfl)
    (case l_Lother_kind => first | k_is | rfl)
    (case c_Lother_kind => first | k_is | rfl)
    (case k_Lother_kind => first | k_is | rfl)
    (case a_Lrefused => first | k_is | rfl)
    (case l_Lrefused => first | k_is | rfl)
    (case c_Lrefused => first | k_is | rfl)
    (case k_Lrefused => first | k_is | rfl)
    (case a_law => first | k_is | rfl)
    (case l_law => first | k_is | rfl)
    (case c_law => first | k_is | rfl)
    (case k_law => first | k_is | rfl)
    (case z_ValueError => first | k_is | rfl)
    (case z_abs => first | k_is | rfl)
    (case z_isinstance => first | k_is | rfl)
    (case z_len => first | k_is | rfl)
    (case z_max => first | k_is | rfl)
    (case z_range => first | k_is | rfl)
    (case gc_NoNumber => first | k_is | rfl)
    (case x_NoNumber => k_exc)
    (case kc_NoNumber => first | k_is | rfl)
    (case bc_NoNumber => first | k_is | rfl)
    (case tc_NoNumber => first | k_is | rfl)
    (case ic_NoNumber => first | k_is | rfl)
    (case sc_NoNumber => first | k_is | rfl)
    (case gc_FeastError => first | k_is | rfl)
    (case kc_FeastError => first | k_is | rfl)
    (case bc_FeastError => first | k_is | rfl)
    (case tc_FeastError => first | k_is | rfl)
    (case ic_FeastError => first | k_is | rfl)
    (case sc_FeastError => first | k_is | rfl)
    (case gc_TooLong => first | k_is | rfl)
    (case kc_TooLong => first | k_is | rfl)
    (case bc_TooLong => first | k_is | rfl)
    (case tc_TooLong => first | k_is | rfl)
    (case ic_TooLong => first | k_is | rfl)
    (case sc_TooLong => first | k_is | rfl)
    (case gc_NoMeasure => first | k_is | rfl)
    (case kc_NoMeasure => first | k_is | rfl)
    (case bc_NoMeasure => first | k_is | rfl)
    (case tc_NoMeasure => first | k_is | rfl)
    (case ic_NoMeasure => first | k_is | rfl)
    (case sc_NoMeasure => first | k_is | rfl)
    (case gc_NoDate => first | k_is | rfl)
    (case kc_NoDate => first | k_is | rfl)
    (case bc_NoDate => first | k_is | rfl)
    (case tc_NoDate => first | k_is | rfl)
    (case ic_NoDate => first | k_is | rfl)
    (case sc_NoDate => first | k_is | rfl)
    (case gc_InGap => first | k_is | rfl)
    (case kc_InGap => first | k_is | rfl)
    (case bc_InGap => first | k_is | rfl)
    (case tc_InGap => first | k_is | rfl)
    (case ic_InGap => first | k_is | rfl)
    (case sc_InGap => first | k_is | rfl)
    (case gc_NoChange => first | k_is | rfl)
    (case kc_NoChange => first | k_is | rfl)
    (case bc_NoChange => first | k_is | rfl)
    (case tc_NoChange => first | k_is | rfl)
    (case ic_NoChange => first | k_is | rfl)
    (case sc_NoChange => first | k_is | rfl)
    (case gc_NoCycle => first | k_is | rfl)
    (case kc_NoCycle => first | k_is | rfl)
    (case bc_NoCycle => first | k_is | rfl)
    (case tc_NoCycle => first | k_is | rfl)
    (case ic_NoCycle => first | k_is | rfl)
    (case sc_NoCycle => first | k_is | rfl)
    (case gc_NoText => first | k_is | rfl)
    (case kc_NoText => first | k_is | rfl)
    (case bc_NoText => first | k_is | rfl)
    (case tc_NoText => first | k_is | rfl)
    (case ic_NoText => first | k_is | rfl)
    (case sc_NoText => first | k_is | rfl)
    (case gc_NoRule => first | k_is | rfl)
    (case kc_NoRule => first | k_is | rfl)
    (case bc_NoRule => first | k_is | rfl)
    (case tc_NoRule => first | k_is | rfl)
    (case ic_NoRule => first | k_is | rfl)
    (case sc_NoRule => first | k_is | rfl)
    (case gc_NoName => first | k_is | rfl)
    (case kc_NoName => first | k_is | rfl)
    (case bc_NoName => first | k_is | rfl)
    (case tc_NoName => first | k_is | rfl)
    (case ic_NoName => first | k_is | rfl)
    (case sc_NoName => first | k_is | rfl)
    (case gc_NoRow => first | k_is | rfl)
    (case kc_NoRow => first | k_is | rfl)
    (case bc_NoRow => first | k_is | rfl)
    (case tc_NoRow => first | k_is | rfl)
    (case ic_NoRow => first | k_is | rfl)
    (case sc_NoRow => first | k_is | rfl)
    (case sb_NoNumber_FeastError => first | k_is | rfl)
    (case sb_NoNumber_TooLong => first | k_is | rfl)
    (case sb_NoNumber_NoMeasure => first | k_is | rfl)
    (case sb_NoNumber_NoDate => first | k_is | rfl)
    (case sb_NoNumber_InGap => first | k_is | rfl)
    (case sb_NoNumber_NoChange => first | k_is | rfl)
    (case sb_NoNumber_NoCycle => first | k_is | rfl)
    (case sb_NoNumber_NoText => first | k_is | rfl)
    (case sb_NoNumber_NoRule => first | k_is | rfl)
    (case sb_NoNumber_NoName => first | k_is | rfl)
    (case sb_NoNumber_NoRow => first | k_is | rfl)
    (case xc_NoNumber => constructor <;> first | k_is | rfl)
    (case sv_NoNumber => first | k_is | rfl)
