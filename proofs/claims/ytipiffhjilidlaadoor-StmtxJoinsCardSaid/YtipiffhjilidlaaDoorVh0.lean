/- laid for this seat: VzI VzQ VzT VzU VzV VzW VzX -/
import Derived.Test.YtipiffhjilidlaaDoorVg9
import Derived.Test.YtipiffhjilidlaaDoorVg7
section
/- Statements: the calls at the head of the laws. -/
set_option maxRecDepth 100000
set_option linter.unusedVariables false
set_option linter.unusedSimpArgs false
namespace Go.VM
open Go.RowKit
def aFl (l : List Tz) (F : Nat) : Bool := (List.range (l.length + 1)).all fun a => !((fns l F).expr 1 a 0).gZ
theorem aCs {l : List Tz} {F : Nat} (h : aFl l F = true) : ∀ a, a ≤ l.length → ((fns l F).expr 1 a 0).gZ = false := by
 intro a ha
 have := List.all_eq_true.1 h a (List.mem_range.2 (by omega))
 simpa using this
def w1 : List Nat := [123, 108, 101, 116, 32, 120, 61, 49, 59, 105, 102, 32, 120, 60, 50, 123, 125, 101, 108, 115, 101, 123, 114, 101, 116, 117, 114, 110, 59, 125, 125]
def w2 : List Nat := [123, 120, 61, 59, 125]
def Y1 : List Tz := (bV w1).1.map toZ
def Y2 : List Tz := (bV w2).1.map toZ
def B1 : List Sx := [.mk 1 1 [120] false (.mk 1 7 8 [] 1 zT []) [] [], .mk 4 9 [] true (.mk 9 12 15 [60] 0 zT [.mk 4 12 13 [120] 0 zT [], .mk 1 14 15 [] 2 zT []]) [] [.mk 3 22 [] false zX [] []]]
theorem aZf : (bV w1).2 = (0, 0) := by kernel_rfl
theorem aXt : (bV w2).2 = (0, 0) := by kernel_rfl
theorem kn1 : aFl Y1 60 = true := by kernel_rfl
theorem kn2 : aFl Y2 60 = true := by kernel_rfl
theorem bl1 : (bC Y1 (fun a => (fns Y1 60).expr 1 a 0) 40).block 0 ⟨0, 0, 0⟩ = some (B1, ⟨18, 0, 0⟩) := by kernel_rfl
theorem bl2 : (bC Y2 (fun a => (fns Y2 60).expr 1 a 0) 40).block 0 ⟨0, 0, 0⟩ = some ([.mk 2 1 [120] false zX [] []], ⟨3, 3, 5⟩) := by kernel_rfl
theorem aWc : Y1.length < 19999 := by decide
theorem aWu : Y2.length < 19999 := by decide
theorem aQb {s : List Nat} (h8 : ∀ c ∈ s, c < 256) (hl : s.length < big) (h : (bV s).2 = (0, 0)) : SCall Go.Proofs.Tryd.prog [0] 12 [.str s] none ⟨1000, og tOl, []⟩ (.ret (.tup [lsV ((bV s).1.map toZ), .agg (dg 0 0)])) none ⟨1000, og tOl, []⟩ := by
 have a := aOd s h8 hl
 unfold aBx at a
 rw [h] at a
 have e : V.lst (List.map gT (bV s).1) .unk = lsV ((bV s).1.map toZ) := by unfold lsV; rw [aCu]
 rw [← e]
 exact a
theorem aJb : SCall Go.Proofs.Tryd.prog [0] 16 [] none ⟨1000, og tOl, []⟩ (.ret (.bool true)) none ⟨1000, og tOl, []⟩ := by
 have a1 := aQb (s := w1) (by decide) (by decide) aZf
 have a2 := aQb (s := w2) (by decide) (by decide) aXt
 have p1 := rQ (aBs Y1 aWc (by decide) 60 (aCs kn1)) (by have := aWc; omega) 40 0 (Nat.zero_le _) bl1
 have p2 := rQ (aBs Y2 aWu (by decide) 60 (aCs kn2)) (by have := aWu; omega) 40 0 (Nat.zero_le _) bl2
 rw [show (bV w1).1.map toZ = Y1 from rfl] at a1
 rw [show (bV w2).1.map toZ = Y2 from rfl] at a2
 rw [show stV (B1, ⟨18, 0, 0⟩) = .tup [.lst (dB B1) .unk, .int .i64 18, .agg (dgX 0 0)] from rfl] at p1
 rw [show stV ([.mk 2 1 [120] false zX [] []], ⟨3, 3, 5⟩) = .tup [.lst [] (.ex 0), .int .i64 0, .agg (dgX 3 5)] from rfl] at p2
 generalize Y1 = Z1 at a1 p1
 generalize Y2 = Z2 at a2 p2
 refine SCall.listed (fn := Go.Proofs.Tryd.f16) (by kernel_rfl) aWr (by kernel_rfl) (by kernel_rfl) (Nat.le_refl _) rfl ((by exact ⟨qD, trivial⟩)) trivial ?_
 unfold aWz
 repeat (refine WR.seq ?_)
 refine WR.reg (WQ.aA [] 1000 _ _ _ _ rfl (WQ.aB ?_))
 repeat (refine WR.seq ?_)
 refine WR.reg (WQ.aE rfl rfl rfl rfl rfl a1 .base rfl ?_)
 refine WQ.aA [] 1000 _ _ _ _ rfl (WQ.aB ?_)
 repeat (refine WR.seq ?_)
 refine WR.reg (WQ.aA [] 1 _ _ _ _ rfl ?_)
 refine WQ.aE rfl rfl rfl rfl rfl (p1 _) .base rfl ?_
 refine WQ.aA [] 1000 _ _ _ _ rfl (WQ.aB ?_)
 repeat (refine WR.seq ?_)
 refine WR.reg (WQ.aE rfl rfl rfl rfl rfl (SCall.fD a2 _) .base rfl ?_)
 refine WQ.aA [] 1000 _ _ _ _ rfl (WQ.aB ?_)
 repeat (refine WR.seq ?_)
 refine WR.reg (WQ.aA [] 1 _ _ _ _ rfl ?_)
 refine WQ.aE rfl rfl rfl rfl rfl (p2 _) .base rfl ?_
 refine WQ.aA [] 1000 _ _ _ _ rfl (WQ.aB ?_)
 repeat (refine WR.seq ?_)
 refine WR.reg (WQ.aA [] 1000 _ _ _ _ rfl (WQ.aB ?_))
 repeat (refine WR.seq ?_)
 refine WR.aG rfl (WR.skip ?_)
 repeat (refine WR.seq ?_)
 refine WR.reg (WQ.aA [] 1000 _ _ _ _ rfl (WQ.aB ?_))
 exact WR.ret ⟨rfl, rfl, ⟨_, rfl, VLe.refl _⟩, fun _ _ => rfl⟩
end Go.VM
end
section
/- Statements: blocks that are deep: the text's tokens. -/
set_option maxRecDepth 100000
set_option linter.unusedVariables false
set_option linter.unusedSimpArgs false
namespace Go.VM
open Go.RowKit
def kt (t : Tk) : Nat × List Nat := (t.kind, t.text)
section
variable {s : List Nat}
theorem wA {i c : Nat} {r : List Nat} (h : s.drop i = c :: r) : s[i]? = some c := by
 have := congrArg (·[0]?) h
 simpa using this
theorem aKc {i c : Nat} {r : List Nat} (h : s.drop i = c :: r) : s.drop (i + 1) = r := by
 have : s.drop (i + 1) = (s.drop i).drop 1 := by rw [List.drop_drop]
 rw [this, h]; rfl
theorem aGm {i : Nat} {r : List Nat} (h : s.drop i = r) (h0 : aP aN r = 0) (h1 : dM r [47, 47] = false) : eW s (s.length + 1) i = i := by
 rw [eW, h, h0, Nat.add_zero, h, h1]
 rfl
theorem aIl {i c : Nat} {r : List Nat} (h : s.drop i = c :: r) (h0 : aN c = false) (h1 : c ≠ 47) : eW s (s.length + 1) i = i := by
 refine aGm h ?_ ?_
 ·rw [aP, h0]
 ·simp [dM, h1]
theorem aYp {i c : Nat} {r : List Nat} {t : Tk} {j : Nat} (h : s.drop i = c :: r) (ht : dR s i c = (t, 0)) (hj : eW s (s.length + 1) t.e = j) (m : Nat) (l : List Tk) (hl : l.length < 4000) :
  lZ s (m + 1) i l = lZ s m j (l ++ [{ t with text := (c :: r).take (t.e - i) }]) := by
 rw [lZ, wA h]
 simp only [aFg, ht, if_neg (show ¬ l.length ≥ 4000 by omega)]
 rw [hj, h]
theorem aFx {i c : Nat} {r : List Nat} (h : s.drop i = c :: r) (hc : c = 123 ∨ c = 125) : dR s i c = (⟨4, i, i + 1, []⟩, 0) := by
 have hp : ∀ y : Nat, y ≠ c → dM (s.drop i) [y, y] = false := by
  intro y hy
  rw [h]
  simp [dM]
  omega
 rcases hc with rfl | rfl
 ·rw [jH (by decide) (by decide) (by decide) (by rw [hp 61 (by decide), hp 38 (by decide)]; rfl)]
  rw [show decide (ibV 123 aEm < 0) = false from by decide]
 ·rw [jH (by decide) (by decide) (by decide) (by rw [hp 61 (by decide), hp 38 (by decide)]; rfl)]
  rw [show decide (ibV 125 aEm < 0) = false from by decide]
end
end Go.VM
end
section
/- Statements: the same tokens elsewhere give the same statements, moved. -/
set_option maxRecDepth 100000
set_option linter.unusedVariables false
set_option linter.unusedSimpArgs false
namespace Go.VM
open Go.RowKit
mutual
def aBv (b : Int) : Sx → Sx
 | .mk k a nm has x body els => .mk k (a + b) nm has (match Nat.beq k 3 && !has with | true => x | false => shX b x) (dI b body) (dI b els)
def dI (b : Int) : List Sx → List Sx
 | [] => []
 | x :: l => aBv b x :: dI b l
end
theorem rV (b : Int) : ∀ l m : List Sx, dI b (l ++ m) = dI b l ++ dI b m
 | [], m => rfl
 | x :: l, m => by simp only [dI, List.cons_append, rV b l m]
def shS (k : Nat) (s : Sr) : Sr := ⟨s.a + k, s.p, s.c⟩
def RlS {α : Type} (n k : Nat) (sh : α → α) (r r' : Option (α × Sr)) : Prop := ∀ v s', r = some (v, s') → s'.c = 0 → s'.a ≤ n → r' = some (sh v, shS k s')
structure TokS (lo n k : Nat) (b : Int) (l l' : List Tz) (P P' : Nat → R Ex) : Prop where
 tok : ∀ i, lo ≤ i → i < n → aC l' (i + k) = shZ b (aC l i)
 els : isF l' (n + k) 5 jJ = false
 expr : ∀ a x a', lo ≤ a → P a = .ok x a' → a' < n → jX (aC l a') = true → P' (a + k) = .ok (shX b x) (a' + k)
section
variable {lo n k : Nat} {b : Int} {l l' : List Tz} {P P' : Nat → R Ex}
theorem TokS.is (t : TokS lo n k b l l' P P') {s : Sr} (h0 : lo ≤ s.a) (h : s.a < n) (kk : Int) (x : List Nat) : isS l' (shS k s) kk x = isS l s kk x := by
 unfold isS isF
 show (cC s && (decide ((aC l' (s.a + k)).k = kk) && decide ((aC l' (s.a + k)).t = x))) = _
 rw [t.tok _ h0 h]
 rfl
theorem kZ (s : Sr) : aO (shS k s) = shS k (aO s) := by
 unfold aO shS
 simp only
 rw [show s.a + k + 1 = s.a + 1 + k by omega]
theorem iR {s : Sr} {x : List Nat} (h : (bP l s x).c = 0) : isS l s 4 x = true ∧ bP l s x = aO s ∧ isF l s.a 4 x = true := by
 unfold bP at h ⊢
 cases hi : isS l s 4 x with
 | true => exact ⟨rfl, rfl, (aTi hi).2⟩
 | false =>
  rw [hi] at h
  exfalso
  unfold hJ at h
  cases hf : cC s with
  | true =>
   rw [hf] at h
   have h : (5 : Int) = 0 := h
   exact absurd h (by decide)
  | false =>
   rw [hf] at h
   exact (of_decide_eq_false hf) h
theorem kY {s : Sr} {c : Int} (hc : c ≠ 0) (h : (hJ l s c).c = 0) : False := by
 unfold hJ at h
 cases hf : cC s with
 | true => rw [hf] at h; exact hc h
 | false => rw [hf] at h; exact (of_decide_eq_false hf) h
theorem TokS.mM (t : TokS lo n k b l l' P P') {s : Sr} (h0 : lo ≤ s.a) {x : List Nat} (h : (bP l s x).c = 0) (hn : (bP l s x).a ≤ n) : bP l' (shS k s) x = shS k (bP l s x) := by
 obtain ⟨h1, h2, h3⟩ := iR h
 rw [h2] at hn ⊢
 have hn : s.a + 1 ≤ n := hn
 unfold bP
 rw [t.is h0 (by omega), h1]
 exact kZ s
theorem rT (hP : ParseOk l P) {s : Sr} (hs : s.a ≤ l.length) (h : (aU P s).2.c = 0) : s.c = 0 ∧ ∃ x a', P s.a = .ok x a' ∧ aU P s = (x, ⟨a', 0, 0⟩) := by
 unfold aU at h ⊢
 cases hf : cC s with
 | false => rw [hf] at h; exact absurd h (of_decide_eq_false hf)
 | true =>
  rw [hf] at h
  refine ⟨eS.1 hf, ?_⟩
  cases hr : P s.a with
  | ok x a' => exact ⟨x, a', rfl, rfl⟩
  | er a d p c => rw [hr] at h; exact absurd h (hP.er _ _ _ _ _ hr)
  | out => have := hP.known _ hs; rw [hr] at this; cases this
theorem TokS.exp (t : TokS lo n k b l l' P P') (hP : ParseOk l P) {s : Sr} (h0 : lo ≤ s.a) (hs : s.a ≤ l.length) (h : (aU P s).2.c = 0) (hn : (aU P s).2.a < n) (hst : jX (aC l (aU P s).2.a) = true) : aU P' (shS k s) = (shX b (aU P s).1, shS k (aU P s).2) := by
 obtain ⟨h1, x, a', h2, h3⟩ := rT hP hs h
 rw [h3] at hn hst ⊢
 have e := t.expr _ _ _ h0 h2 hn hst
 unfold aU
 rw [show cC (shS k s) = true from decide_eq_true h1]
 show (match P' (s.a + k) with | .ok x n => (x, (⟨n, 0, 0⟩ : Sr)) | .er _ _ p c => (zX, ⟨s.a + k, p, c⟩) | .out => (zX, shS k s)) = _
 rw [e]
 rfl
theorem tN {a : Nat} {x : List Nat} (h : isF l a 4 x = true) (hx : x = [59] ∨ x = [123]) : jX (aC l a) = true := by
 unfold isF at h
 simp only [Bool.and_eq_true, decide_eq_true_eq] at h
 unfold jX
 rw [h.1, h.2]
 rcases hx with rfl | rfl <;> rfl
theorem TokS.val (t : TokS lo n k b l l' P P') (hP : ParseOk l P) {s : Sr} (h0 : lo ≤ s.a) (hs : s.a ≤ l.length) {kk : Nat} (hk : Nat.beq kk 3 = false) {p : Int} {nm : List Nat} (h : (lI l P kk p nm s).2.c = 0) (hn : (lI l P kk p nm s).2.a ≤ n) :
  lI l' P' kk (p + b) nm (shS k s) = (aBv b (lI l P kk p nm s).1, shS k (lI l P kk p nm s).2) := by
 have m1 := bL hs (x := [61])
 have m2 := bB hP m1.len
 have m3 := bL m2.len (x := [59])
 unfold lI at h hn ⊢
 have h : (bP l (aU P (bP l s [61])).2 [59]).c = 0 := h
 have hn : (bP l (aU P (bP l s [61])).2 [59]).a ≤ n := hn
 have c2 := m3.fine h
 have c1 := m2.fine c2
 obtain ⟨q1, q2, q3⟩ := iR h
 have a1 : (bP l s [61]).a ≤ n := by have := m2.le; have := m3.le; omega
 have a2 : (aU P (bP l s [61])).2.a < n := by have := m3.lt h; omega
 rw [t.mM h0 c1 a1, t.exp hP (by have := m1.le; omega) m1.len c2 a2 (tN q3 (.inl rfl)), t.mM (by have := m1.le; have := m2.le; omega) h hn]
 simp only [aBv, dI, hk, Bool.false_and]
structure SimS (lo n k : Nat) (b : Int) (l : List Tz) (f f' : Sf) : Prop where
 block : ∀ d s, lo ≤ s.a → s.a ≤ l.length → RlS n k (dI b) (f.block d s) (f'.block d (shS k s))
 loop : ∀ d acc s, lo ≤ s.a → s.a ≤ l.length → RlS n k (dI b) (f.loop d acc s) (f'.loop d (dI b acc) (shS k s))
 stmt : ∀ d s, lo ≤ s.a → s.a ≤ l.length → RlS n k (aBv b) (f.stmt d s) (f'.stmt d (shS k s))
theorem aPg (t : TokS lo n k b l l' P P') (hP : ParseOk l P) (hn : n ≤ l.length) {f f' : Sf} (iv : InvS l f) (blk : ∀ d s v s', s.a ≤ l.length → f.block d s = some (v, s') → s'.c = 0 → jX (aC l s.a) = true) (h : SimS lo n k b l f f') (d : Nat) (s : Sr) (h0 : lo ≤ s.a) (hs : s.a ≤ l.length) : RlS n k (aBv b) (eU l P f d s) (eU l' P' f' d (shS k s)) := by
 intro v s' e hc ha
 have ivn := pV hP iv
 have stp := ivn.stmt d s v s' hs e
 have hlt := stp.lt hc
 have e1 := fun (kk : Int) (x : List Nat) => t.is (s := s) h0 (by omega) kk x
 have hnow : aC l' (s.a + k) = shZ b (aC l s.a) := t.tok _ h0 (by omega)
 unfold eU at e ⊢
 rw [e1, e1, e1, e1]
 rw [show (shS k s).a = s.a + k from rfl, hnow, kZ, kZ]
 rw [show (shZ b (aC l s.a)).a = (aC l s.a).a + b from rfl, show (shZ b (aC l s.a)).t = (aC l s.a).t from rfl]
 cases h1 : isS l s 5 aIp with
 | true =>
  have n1 := aQ (cA h1 (by decide))
  rw [h1] at e
  cases hk : decide ((aC l (s.a + 1)).k = 1) with
  | true =>
   rw [hk] at e
   have n2 := cQ (l := l) (a := s.a + 1) (by rw [of_decide_eq_true hk]; decide)
   have e := Option.some.inj e
   have hv := nY hP (s := aO (aO s)) n2 (k := 1) (p := (aC l s.a).a) (nm := (aC l (s.a + 1)).t)
   rw [e] at hv
   have hv1 := hv.lt hc
   have hv1 : s.a + 1 + 1 < s'.a := hv1
   have hk1 := t.tok (s.a + 1) (by omega) (by omega)
   rw [show s.a + k + 1 = s.a + 1 + k by omega, hk1, show (shZ b (aC l (s.a + 1))).k = (aC l (s.a + 1)).k from rfl, show (shZ b (aC l (s.a + 1))).t = (aC l (s.a + 1)).t from rfl, hk]
   have tv := t.val hP (s := aO (aO s)) (by show lo ≤ s.a + 1 + 1; omega) n2 (kk := 1) rfl (p := (aC l s.a).a) (nm := (aC l (s.a + 1)).t) (by rw [e]; exact hc) (by rw [e]; exact ha)
   simp only
   rw [tv, e]
  | false =>
   rw [hk] at e
   have e := Option.some.inj e
   exfalso
   have hf := kU n1.len (c := 5) (by decide)
   have hv := nY hP hf.len (k := 1) (p := (aC l s.a).a) (nm := [])
   rw [e] at hv
   exact kY (by decide) (hv.fine hc)
 | false =>
 rw [h1] at e
 simp only at e ⊢
 cases h2 : isS l s 5 aJt with
 | true =>
  have n1 := aQ (cA h2 (by decide))
  rw [h2] at e
  simp only at e ⊢
  have q0 := t.is (s := aO s) (kk := 4) (x := [59]) (by show lo ≤ s.a + 1; omega)
  cases h3 : isS l (aO s) 4 [59] with
  | true =>
   rw [h3] at e
   cases e
   have ha : s.a + 1 + 1 ≤ n := ha
   rw [q0 (by show s.a + 1 < n; omega), h3]
   rfl
  | false =>
   rw [h3] at e
   cases e
   have m2 := bB hP n1.len
   have m3 := bL m2.len (x := [59])
   have c2 := m3.fine hc
   obtain ⟨q1, q2, q3⟩ := iR hc
   have hle : s.a + 1 ≤ (aU P (aO s)).2.a := m2.le
   have a2 : (aU P (aO s)).2.a < n := by have := m3.lt hc; omega
   rw [q0 (by show s.a + 1 < n; omega), h3]
   simp only
   rw [t.exp hP (by show lo ≤ s.a + 1; omega) n1.len c2 a2 (tN q3 (.inl rfl))]
   simp only
   rw [t.mM (by omega) hc ha]
   rfl
 | false =>
 rw [h2] at e
 simp only at e ⊢
 cases h3 : isS l s 5 sIf with
 | true =>
  have n1 := aQ (cA h3 (by decide))
  have m2 := bB hP n1.len
  have hle : s.a + 1 ≤ (aU P (aO s)).2.a := m2.le
  rw [h3] at e
  simp only at e ⊢
  cases hb : f.block d (aU P (aO s)).2 with
  | none => simp only [hb] at e; cases e
  | some q =>
   obtain ⟨bb, s1⟩ := q
   have m3 := iv.block _ _ _ _ m2.len hb
   simp only [hb] at e
   have main : s1.c = 0 → s1.a ≤ n → aU P' (shS k (aO s)) = (shX b (aU P (aO s)).1, shS k (aU P (aO s)).2) ∧ f'.block d (shS k (aU P (aO s)).2) = some (dI b bb, shS k s1) := by
    intro c1 a1
    have c2 := m3.fine c1
    have a2 : (aU P (aO s)).2.a < n := by have := m3.lt c1; omega
    exact ⟨t.exp hP (by show lo ≤ s.a + 1; omega) n1.len c2 a2 (blk _ _ _ _ m2.len hb c1), h.block d _ (by omega) m2.len _ _ hb c1 a1⟩
   cases h4 : isS l s1 5 jJ with
   | false =>
    rw [h4] at e
    cases e
    obtain ⟨m4, m5⟩ := main hc ha
    rw [m4]
    simp only
    rw [m5]
    simp only
    have : isS l' (shS k s') 5 jJ = false := by
     rcases Nat.eq_or_lt_of_le ha with q | q
     ·unfold isS
      rw [show (shS k s').a = n + k by show s'.a + k = _; rw [q], t.els]
      cases cC (shS k s') <;> rfl
     ·rw [t.is (by have := m3.le; omega) q, h4]
    rw [this]
    rfl
   | true =>
    rw [h4] at e
    have n4 := aQ (cA h4 (by decide))
    cases hb2 : f.block d (aO s1) with
    | none => simp only [hb2] at e; cases e
    | some q =>
     obtain ⟨b2, s2⟩ := q
     have m6 := iv.block _ _ _ _ n4.len hb2
     simp only [hb2] at e
     cases e
     have c1 := n4.fine (m6.fine hc)
     have a1 : s1.a + 1 < s'.a := m6.lt hc
     obtain ⟨m4, m5⟩ := main c1 (by omega)
     rw [m4]
     simp only
     rw [m5]
     simp only
     rw [t.is (by have := m3.le; omega) (by omega), h4]
     simp only
     rw [kZ, h.block d _ (by have := m3.le; show lo ≤ s1.a + 1; omega) n4.len _ _ hb2 hc ha]
     rfl
 | false =>
 rw [h3] at e
 simp only at e ⊢
 cases h4 : isS l s 5 aIt with
 | true =>
  have n1 := aQ (cA h4 (by decide))
  have m2 := bB hP n1.len
  have hle : s.a + 1 ≤ (aU P (aO s)).2.a := m2.le
  rw [h4] at e
  simp only at e ⊢
  cases hb : f.block d (aU P (aO s)).2 with
  | none => simp only [hb] at e; cases e
  | some q =>
   obtain ⟨bb, s1⟩ := q
   have m3 := iv.block _ _ _ _ m2.len hb
   simp only [hb] at e
   cases e
   have c2 := m3.fine hc
   have a2 : (aU P (aO s)).2.a < n := by have := m3.lt hc; omega
   rw [t.exp hP (by show lo ≤ s.a + 1; omega) n1.len c2 a2 (blk _ _ _ _ m2.len hb hc)]
   simp only
   rw [h.block d _ (by omega) m2.len _ _ hb hc ha]
   rfl
 | false =>
 rw [h4] at e
 simp only at e ⊢
 have two : s.a + 1 < n := by
  cases h5 : rY l s.a with
  | true =>
   rw [h5] at e
   have h5' := h5
   unfold rY at h5'
   rw [Bool.and_eq_true] at h5'
   have n2 := cQ (l := l) (a := s.a) (by rw [of_decide_eq_true h5'.1]; decide)
   have e := Option.some.inj e
   have hv := nY hP (s := aO s) n2 (k := 2) (p := (aC l s.a).a) (nm := (aC l s.a).t)
   rw [e] at hv
   have hv1 : s.a + 1 < s'.a := hv.lt hc
   omega
  | false =>
   rw [h5] at e
   cases e
   have m2 := bB hP hs
   have m3 := bL m2.len (x := [59])
   have := m3.lt hc
   have := m2.lt (m3.fine hc)
   omega
 have hset : rY l' (s.a + k) = rY l s.a := by
  unfold rY
  rw [hnow, show s.a + k + 1 = s.a + 1 + k by omega, t.tok (s.a + 1) (by omega) two]
  rfl
 rw [hset]
 cases h5 : rY l s.a with
 | true =>
  rw [h5] at e
  have h5' := h5
  unfold rY at h5'
  rw [Bool.and_eq_true] at h5'
  have n2 := cQ (l := l) (a := s.a) (by rw [of_decide_eq_true h5'.1]; decide)
  have e := Option.some.inj e
  have tv := t.val hP (s := aO s) (by show lo ≤ s.a + 1; omega) n2 (kk := 2) rfl (p := (aC l s.a).a) (nm := (aC l s.a).t) (by rw [e]; exact hc) (by rw [e]; exact ha)
  simp only
  rw [tv, e]
 | false =>
  rw [h5] at e
  cases e
  have m2 := bB hP hs
  have m3 := bL m2.len (x := [59])
  have c2 := m3.fine hc
  obtain ⟨q1, q2, q3⟩ := iR hc
  have a2 : (aU P s).2.a < n := by have := m3.lt hc; omega
  simp only
  rw [t.exp hP h0 hs c2 a2 (tN q3 (.inl rfl))]
  simp only
  rw [t.mM (by have := m2.le; omega) hc ha]
  rfl
theorem aOj {d : Nat} {acc : List Sx} {f : Sf} (iv : InvS l f) {s : Sr} (hs : s.a ≤ l.length) {v : List Sx} {s' : Sr} (e : bZ l f d acc s = some (v, s')) (hc : s'.c = 0) : s.c = 0 := by
 unfold bZ at e
 cases hf : cC s with
 | true => exact eS.1 hf
 | false => rw [hf] at e; cases e; exact hc
theorem aMn (l : List Tz) (hP : ParseOk l P) (m : Nat) : ∀ d s v s', s.a ≤ l.length → (bC l P m).block d s = some (v, s') → s'.c = 0 → jX (aC l s.a) = true := by
 intro d s v s' hs e hc
 cases m with
 | zero => cases e
 | succ m =>
  have e : bW l (bC l P m) d s = some (v, s') := e
  unfold bW at e
  split at e
  ·cases e; exact (kY (by decide) hc).elim
  ·have h1 := ((cB hP m).loop _ _ _ _ _ (bL hs).len e).fine hc
   exact tN (iR h1).2.2 (.inr rfl)
theorem aIy (t : TokS lo n k b l l' P P') (hP : ParseOk l P) (hn : n ≤ l.length) {f f' : Sf} (iv : InvS l f) (blk : ∀ d s v s', s.a ≤ l.length → f.block d s = some (v, s') → s'.c = 0 → jX (aC l s.a) = true) (h : SimS lo n k b l f f') : SimS lo n k b l ⟨bW l f, bZ l f, eU l P f⟩ ⟨bW l' f', bZ l' f', eU l' P' f'⟩ := by
 refine ⟨fun d s h0 hs => ?_, fun d acc s h0 hs => ?_, fun d s h0 hs => aPg t hP hn iv blk h d s h0 hs⟩
 ·intro v s' e hc ha
  have stp := (pV hP iv).block d s v s' hs e
  have hlt := stp.lt hc
  have hnow : aC l' (s.a + k) = shZ b (aC l s.a) := t.tok _ h0 (by omega)
  have e : bW l f d s = some (v, s') := e
  show bW l' f' d (shS k s) = _
  have hdp : lB l' d (shS k s) = lB l d s := by
   unfold lB
   rw [show (shS k s).a = s.a + k from rfl, hnow]
   rfl
  unfold bW at e ⊢
  rw [hdp]
  cases hd : lB l d s with
  | true => rw [hd] at e; cases e; exact (kY (by decide) hc).elim
  | false =>
   rw [hd] at e
   simp only at e ⊢
   have ms := bL hs (x := [123])
   have lp := iv.loop _ _ _ _ _ ms.len e
   rw [t.mM h0 (lp.fine hc) (by have := lp.le; omega)]
   exact h.loop (d + 1) [] _ (by have := ms.le; omega) ms.len v s' e hc ha
 ·intro v s' e hc ha
  have stp := (pV hP iv).loop d acc s v s' hs e
  have hlt := stp.lt hc
  have e : bZ l f d acc s = some (v, s') := e
  show bZ l' f' d (dI b acc) (shS k s) = _
  have c0 := aOj iv hs e hc
  unfold bZ at e ⊢
  rw [show cC (shS k s) = cC s from rfl, t.is h0 (by omega)]
  rw [eS.2 c0] at e ⊢
  simp only at e ⊢
  cases h1 : isS l s 4 [125] with
  | true => rw [h1] at e; cases e; simp only; rw [kZ]
  | false =>
   rw [h1] at e
   simp only at e ⊢
   cases h2 : f.stmt d s with
   | none => simp only [h2] at e; cases e
   | some q =>
    obtain ⟨x, s1⟩ := q
    simp only [h2] at e
    have m1 := iv.stmt _ _ _ _ hs h2
    have m2 := iv.loop _ _ _ _ _ m1.len e
    rw [h.stmt d s h0 hs x s1 h2 (m2.fine hc) (by have := m2.le; omega)]
    simp only
    have := h.loop d (acc ++ [x]) s1 (by have := m1.le; omega) m1.len v s' e hc ha
    rw [rV] at this
    exact this
theorem uH (t : TokS lo n k b l l' P P') (hP : ParseOk l P) (hn : n ≤ l.length) : ∀ m, SimS lo n k b l (bC l P m) (bC l' P' m)
 | 0 => ⟨fun _ _ _ _ _ _ e => (by cases e), fun _ _ _ _ _ _ _ e => (by cases e), fun _ _ _ _ _ _ e => (by cases e)⟩
 | m + 1 => aIy t hP hn (cB hP m) (aMn l hP m) (uH t hP hn m)
end
end Go.VM
end
section
/- Statements: how much there is of what was read. -/
set_option maxRecDepth 100000
set_option linter.unusedVariables false
set_option linter.unusedSimpArgs false
namespace Go.VM
open Go.RowKit
mutual
def okT (K : Nat) : Tx → Prop
 | .mk _ _ _ _ l => l.length ≤ K ∧ aYl K l
def aYl (K : Nat) : List Tx → Prop
 | [] => True
 | x :: l => okT K x ∧ aYl K l
end
mutual
def okX (K : Nat) : Ex → Prop
 | .mk _ _ _ _ _ t args => okT K t ∧ args.length ≤ K ∧ aFj K args
def aFj (K : Nat) : List Ex → Prop
 | [] => True
 | x :: l => okX K x ∧ aFj K l
end
mutual
def okS (K : Nat) : Sx → Prop
 | .mk _ _ _ _ x body els => okX K x ∧ (body.length ≤ K ∧ aCf K body) ∧ (els.length ≤ K ∧ aCf K els)
def aCf (K : Nat) : List Sx → Prop
 | [] => True
 | x :: l => okS K x ∧ aCf K l
end
theorem aBk {K : Nat} : ∀ {l : List Ex} {x : Ex}, aFj K l → okX K x → aFj K (l ++ [x])
 | [], x, _, h => ⟨h, trivial⟩
 | y :: l, x, h, k => ⟨h.1, aBk h.2 k⟩
theorem aBa {K : Nat} : ∀ {l : List Sx} {x : Sx}, aCf K l → okS K x → aCf K (l ++ [x])
 | [], x, _, h => ⟨h, trivial⟩
 | y :: l, x, h, k => ⟨h.1, aBa h.2 k⟩
theorem uS {K : Nat} : okT K zT := ⟨Nat.zero_le _, trivial⟩
theorem aGv {K : Nat} : okX K zX := ⟨uS, Nat.zero_le _, trivial⟩
theorem nF {K k : Nat} {a e n : Int} {nm : List Nat} : okX K (.mk k a e nm n zT []) := ⟨uS, Nat.zero_le _, trivial⟩
theorem aBp {K : Nat} (hK : 1 ≤ K) : ∀ (ls : List Int) {x : Tx}, okT K x → okT K (gB ls x)
 | [], x, h => h
 | p :: ls, x, h => ⟨hK, aBp hK ls h, trivial⟩
theorem aVa {K : Nat} (hK : 1 ≤ K) {l : List Tz} {a : Nat} {x : Tx} {a2 : Nat} (h : tyF l a = .ok x a2) : okT K x := by
 unfold tyF at h
 split at h
 ·cases h
 ·split at h
  ·rename_i y a3 hb
   cases h
   refine aBp hK _ ?_
   unfold gC at hb
   split at hb
   ·cases hb; exact ⟨Nat.zero_le _, trivial⟩
   ·split at hb
    ·split at hb
     ·split at hb
      ·cases hb; exact ⟨Nat.zero_le _, trivial⟩
      ·cases hb
     ·cases hb; exact ⟨Nat.zero_le _, trivial⟩
    ·cases hb
  ·cases h
  ·cases h
structure BdF (l : List Tz) (f : Fns) : Prop where
 expr : ∀ lv a d x a', f.expr lv a d = .ok x a' → okX (l.length + 2) x
 oper : ∀ a d x a', f.oper a d = .ok x a' → okX (l.length + 2) x
 prim : ∀ a d x a', f.prim a d = .ok x a' → okX (l.length + 2) x
 list : ∀ to a d r a', f.list to a d = .ok r a' → aFj (l.length + 2) r.1 ∧ r.1.length ≤ l.length
 bin : ∀ lv x a d y a', okX (l.length + 2) x → f.bin lv x a d = .ok y a' → okX (l.length + 2) y
 post : ∀ x a d y a', okX (l.length + 2) x → f.post x a d = .ok y a' → okX (l.length + 2) y
 elts : ∀ acc a d es a', aFj (l.length + 2) acc → acc.length ≤ a → f.elts acc a d = .ok es a' → aFj (l.length + 2) es ∧ es.length ≤ a'
theorem aQw {l : List Tz} {f : Fns} (pf : ProgF f) (h : BdF l f) : BdF l ⟨dX f, eI l f, eG l f, dZ l f, jI l f, fB l f, eT l f⟩ := by
 refine ⟨fun lv a d x a' e => ?_, fun a d x a' e => ?_, fun a d x a' e => ?_, fun to a d r a' e => ?_, fun lv x a d y a' hx e => ?_, fun x a d y a' hx e => ?_, fun acc a d es a' hacc hlen e => ?_⟩
 ·have e : dX f lv a d = .ok x a' := e
  unfold dX at e
  split at e
  ·exact h.oper _ _ _ _ e
  ·obtain ⟨y, a1, e1, e2⟩ := aX e
   exact h.bin _ _ _ _ _ _ (h.expr _ _ _ _ _ e1) e2
 ·have e : eI l f a d = .ok x a' := e
  unfold eI at e
  split at e
  ·obtain ⟨y, a1, e1, e2⟩ := aX e
   cases e2
   exact ⟨uS, by simp, h.oper _ _ _ _ (bY e1), trivial⟩
  ·obtain ⟨y, a1, e1, e2⟩ := aX e
   exact h.post _ _ _ _ _ (h.prim _ _ _ _ e1) e2
 ·have e : eG l f a d = .ok x a' := e
  unfold eG at e
  split at e
  ·obtain ⟨n, a1, e1, e2⟩ := aX e
   cases e2
   exact nF
  ·split at e
   ·split at e
    ·cases e; exact nF
    ·cases e
   ·split at e
    ·cases e; exact nF
    ·split at e
     ·cases e; exact nF
     ·split at e
      ·cases e; exact nF
      ·split at e
       ·obtain ⟨y, a1, e1, e2⟩ := aX e
        obtain ⟨z, a2, e3, e4⟩ := aX e2
        cases e4
        exact h.expr _ _ _ _ _ (bY e1)
       ·split at e
        ·obtain ⟨ty, a1, r, ht, hi, e1, rfl⟩ := vS e
         have := h.list _ _ _ _ _ e1
         exact ⟨aVa (by omega) ht, by omega, this.1⟩
        ·cases e
 ·have e : dZ l f to a d = .ok r a' := e
  unfold dZ at e
  obtain ⟨es, a1, e1, e2⟩ := aX e
  obtain ⟨z, a3, e3, e4⟩ := aX e2
  cases e4
  have hk := cQ (l := l) (a := a1) (by rw [(fT e3).2.2]; decide)
  have e1 := bY e1
  unfold eF at e1
  split at e1
  ·cases e1; exact ⟨trivial, Nat.zero_le _⟩
  ·have := h.elts [] _ _ _ _ trivial (Nat.zero_le _) e1
   exact ⟨this.1, by show es.length ≤ _; omega⟩
 ·have e : jI l f lv x a d = .ok y a' := e
  unfold jI at e
  split at e
  ·obtain ⟨z, a2, e1, e2⟩ := aX e
   refine h.bin _ _ _ _ _ _ ?_ e2
   exact ⟨uS, by simp, hx, h.expr _ _ _ _ _ e1, trivial⟩
  ·cases e; exact hx
 ·have e : fB l f x a d = .ok y a' := e
  unfold fB at e
  split at e
  ·split at e
   ·refine h.post _ _ _ _ _ ?_ e
    exact ⟨uS, by simp, hx, trivial⟩
   ·cases e
  ·split at e
   ·obtain ⟨r, a1, e1, e2⟩ := aX e
    have := h.list _ _ _ _ _ e1
    refine h.post _ _ _ _ _ ?_ e2
    exact ⟨uS, by simp; omega, hx, this.1⟩
   ·split at e
    ·obtain ⟨z, a1, e1, e2⟩ := aX e
     obtain ⟨w, a2, e3, e4⟩ := aX e2
     refine h.post _ _ _ _ _ ?_ e4
     exact ⟨uS, by simp, hx, h.expr _ _ _ _ _ (bY e1), trivial⟩
    ·cases e; exact hx
 ·have e : eT l f acc a d = .ok es a' := e
  unfold eT at e
  obtain ⟨x, a1, e1, e2⟩ := aX e
  have p := pf.expr _ _ _ _ _ e1
  have q := aBk hacc (h.expr _ _ _ _ _ e1)
  split at e2
  ·exact h.elts _ _ _ _ _ q (by simp; omega) e2
  ·cases e2
   exact ⟨q, by simp; omega⟩
theorem aOu (l : List Tz) : ∀ n, BdF l (fns l n)
 | 0 => ⟨fun _ _ _ _ _ e => (by cases e), fun _ _ _ _ e => (by cases e), fun _ _ _ _ e => (by cases e), fun _ _ _ _ _ e => (by cases e), fun _ _ _ _ _ _ _ e => (by cases e), fun _ _ _ _ _ _ e => (by cases e), fun _ _ _ _ _ _ _ e => (by cases e)⟩
 | n + 1 => aQw (nC l n) (aOu l n)
section
variable {l : List Tz} {P : Nat → R Ex}
structure BdS (l : List Tz) (f : Sf) : Prop where
 block : ∀ d s v s', s.a ≤ l.length → f.block d s = some (v, s') → s'.c = 0 → aCf (l.length + 2) v ∧ v.length ≤ l.length
 loop : ∀ d acc s v s', s.a ≤ l.length → aCf (l.length + 2) acc → acc.length ≤ s.a → f.loop d acc s = some (v, s') → s'.c = 0 → aCf (l.length + 2) v ∧ v.length ≤ l.length
 stmt : ∀ d s v s', s.a ≤ l.length → f.stmt d s = some (v, s') → s'.c = 0 → okS (l.length + 2) v
theorem kV (hx : ∀ a x n, P a = .ok x n → okX (l.length + 2) x) (s : Sr) : okX (l.length + 2) (aU P s).1 := by
 unfold aU
 split
 ·split
  ·rename_i h; exact hx _ _ _ h
  ·exact aGv
  ·exact aGv
 ·exact aGv
theorem aOx (hP : ParseOk l P) (hx : ∀ a x n, P a = .ok x n → okX (l.length + 2) x) {f : Sf} (iv : InvS l f) (h : BdS l f) : BdS l ⟨bW l f, bZ l f, eU l P f⟩ := by
 refine ⟨fun d s v s' hs e hc => ?_, fun d acc s v s' hs ha hl e hc => ?_, fun d s v s' hs e hc => ?_⟩
 ·have e : bW l f d s = some (v, s') := e
  unfold bW at e
  split at e
  ·cases e; exact (kY (by decide) hc).elim
  ·exact h.loop _ [] _ _ _ (bL hs).len trivial (Nat.zero_le _) e hc
 ·have e : bZ l f d acc s = some (v, s') := e
  unfold bZ at e
  split at e
  ·cases e; exact ⟨ha, by omega⟩
  ·split at e
   ·cases e; exact ⟨ha, by omega⟩
   ·split at e
    ·rename_i x s1 hx
     have m1 := iv.stmt _ _ _ _ hs hx
     have m2 := iv.loop _ _ _ _ _ m1.len e
     have c1 := m2.fine hc
     have := m1.lt c1
     exact h.loop _ _ _ _ _ m1.len (aBa ha (h.stmt _ _ _ _ hs hx c1)) (by simp; omega) e hc
    ·cases e
 ·have e : eU l P f d s = some (v, s') := e
  have val : ∀ k p nm s2, okS (l.length + 2) (lI l P k p nm s2).1 := fun k p nm s2 => ⟨kV hx _, ⟨Nat.zero_le _, trivial⟩, ⟨Nat.zero_le _, trivial⟩⟩
  unfold eU at e
  split at e
  ·split at e
   ·have v0 := val 1 (aC l s.a).a (aC l (s.a + 1)).t (aO (aO s))
    rw [Option.some.inj e] at v0; exact v0
   ·have v0 := val 1 (aC l s.a).a [] (hJ l (aO s) 5)
    rw [Option.some.inj e] at v0; exact v0
  ·split at e
   ·split at e
    ·cases e; exact ⟨aGv, ⟨Nat.zero_le _, trivial⟩, ⟨Nat.zero_le _, trivial⟩⟩
    ·cases e; exact ⟨kV hx _, ⟨Nat.zero_le _, trivial⟩, ⟨Nat.zero_le _, trivial⟩⟩
   ·split at e
    ·rename_i hi
     have n1 := aQ (cA hi (by decide))
     have m2 := bB hP n1.len
     split at e
     ·cases e
     ·rename_i b s1 hb
      have m3 := iv.block _ _ _ _ m2.len hb
      split at e
      ·rename_i h4
       have n4 := aQ (cA h4 (by decide))
       split at e
       ·cases e
       ·rename_i b2 s2 hb2
        have m6 := iv.block _ _ _ _ n4.len hb2
        cases e
        have k1 := h.block _ _ _ _ m2.len hb (n4.fine (m6.fine hc))
        have k2 := h.block _ _ _ _ n4.len hb2 hc
        exact ⟨kV hx _, ⟨by omega, k1.1⟩, ⟨by omega, k2.1⟩⟩
      ·cases e
       have k1 := h.block _ _ _ _ m2.len hb hc
       exact ⟨kV hx _, ⟨by omega, k1.1⟩, ⟨Nat.zero_le _, trivial⟩⟩
    ·split at e
     ·rename_i hi
      have n1 := aQ (cA hi (by decide))
      have m2 := bB hP n1.len
      split at e
      ·cases e
      ·rename_i b s1 hb
       cases e
       have k1 := h.block _ _ _ _ m2.len hb hc
       exact ⟨kV hx _, ⟨by omega, k1.1⟩, ⟨Nat.zero_le _, trivial⟩⟩
     ·split at e
      ·have v0 := val 2 (aC l s.a).a (aC l s.a).t (aO s)
       rw [Option.some.inj e] at v0; exact v0
      ·cases e; exact ⟨kV hx _, ⟨Nat.zero_le _, trivial⟩, ⟨Nat.zero_le _, trivial⟩⟩
theorem aGs (hP : ParseOk l P) (hx : ∀ a x n, P a = .ok x n → okX (l.length + 2) x) : ∀ n, BdS l (bC l P n)
 | 0 => ⟨fun _ _ _ _ _ e => (by cases e), fun _ _ _ _ _ _ _ _ e => (by cases e), fun _ _ _ _ _ e => (by cases e)⟩
 | n + 1 => aOx hP hx (cB hP n) (aGs hP hx n)
end
end Go.VM
end
section
/- Statements: the document's comparing, of what is the same. -/
set_option maxRecDepth 100000
set_option linter.unusedVariables false
set_option linter.unusedSimpArgs false
namespace Go.VM
open Go.RowKit
end Go.VM
end
section
/- Statements: the document's comparing, of expressions and statements that are the same. -/
set_option maxRecDepth 100000
set_option linter.unusedVariables false
set_option linter.unusedSimpArgs false
namespace Go.VM
open Go.RowKit
def slC (l : List Sx) : V := .lst (dB l) .unk
end Go.VM
end
section
/- Statements: what stands behind a block. -/
set_option maxRecDepth 100000
set_option linter.unusedVariables false
set_option linter.unusedSimpArgs false
namespace Go.VM
open Go.RowKit
mutual
theorem aTk : ∀ x : Tx, shT 0 x = x
 | .mk k a p n l => by simp only [shT, Int.add_zero, aPl l]
theorem aPl : ∀ l : List Tx, aKq 0 l = l
 | [] => rfl
 | x :: l => by simp only [aKq, aTk x, aPl l]
end
mutual
theorem aTc : ∀ x : Ex, shX 0 x = x
 | .mk k a e nm n t args => by
  simp only [shX, Int.add_zero, aLx args]
  cases Nat.beq k 8 <;> simp only [aTk]
theorem aLx : ∀ l : List Ex, mK 0 l = l
 | [] => rfl
 | x :: l => by simp only [mK, aTc x, aLx l]
end
mutual
theorem aOz : ∀ x : Sx, aBv 0 x = x
 | .mk k a nm h x b e => by
  simp only [aBv, Int.add_zero, yJ b, yJ e]
  cases Nat.beq k 3 && !h <;> simp only [aTc]
theorem yJ : ∀ l : List Sx, dI 0 l = l
 | [] => rfl
 | x :: l => by simp only [dI, aOz x, yJ l]
end
noncomputable def PL (l : List Tz) (a : Nat) : R Ex := open Classical in if h : a ≤ l.length then Classical.choose (Classical.choose_spec (yC l a 1 0 h)) else .out
theorem jZ (l : List Tz) {a : Nat} (h : a ≤ l.length) : (PL l a).gZ = false ∧ ∃ N, ∀ n, N ≤ n → (fns l n).expr 1 a 0 = PL l a := by
 have h2 := Classical.choose_spec (Classical.choose_spec (yC l a 1 0 h))
 unfold PL
 rw [dif_pos h]
 exact ⟨h2.1, _, h2.2⟩
theorem aGe (l : List Tz) (hl : l.length < 19999) (hT : ∀ t ∈ l, t.t.length < big) : ParseOk l (PL l) := by
 refine ⟨fun a ha h => ?_, fun a ha => (jZ l ha).1, fun a x n ha e => ?_, fun a a1 d p c e => ?_⟩
 ·obtain ⟨h1, N, h2⟩ := jZ l ha
  have h2 := h2 N (Nat.le_refl _)
  have := SCall.dY rfl (uD l hl hT a N ha (by rw [h2]; exact h1)) (by exact ⟨rH l, trivial, trivial⟩) (by exact aEx _) h
  rw [h2] at this
  exact this
 ·obtain ⟨h1, N, h2⟩ := jZ l ha
  have h2 := h2 N (Nat.le_refl _)
  rw [e] at h2
  exact ⟨(nC l N).expr 1 a 0 x n h2, ((cP l N).expr 1 a 0 x n h2).2 ha⟩
 ·by_cases ha : a ≤ l.length
  ·obtain ⟨h1, N, h2⟩ := jZ l ha
   have h2 := h2 N (Nat.le_refl _)
   rw [e] at h2
   exact (tZ N).expr 1 a 0 a1 d p c h2
  ·unfold PL at e
   rw [dif_neg ha] at e
   cases e
theorem aZi (l : List Tz) : ∀ a x n, PL l a = .ok x n → okX (l.length + 2) x := by
 intro a x n e
 by_cases ha : a ≤ l.length
 ·obtain ⟨h1, N, h2⟩ := jZ l ha
  have h2 := h2 N (Nat.le_refl _)
  rw [e] at h2
  exact (aOu l N).expr 1 a 0 x n h2
 ·unfold PL at e
  rw [dif_neg ha] at e
  cases e
section
variable {lo n k : Nat} {b : Int} {l l' : List Tz} {P P' : Nat → R Ex}
theorem aNj (t : TokS lo n k b l l' P P') (hP : ParseOk l P) (hn : n < l.length) (hz : aC l' (n + k) = shZ b (aC l n)) : ∀ m d acc s v s', lo ≤ s.a → s.a ≤ l.length → (bC l P m).loop d acc s = some (v, s') → s'.c = 0 → s'.a = n + 1 → (bC l' P' m).loop d (dI b acc) (shS k s) = some (dI b v, shS k s') := by
 intro m
 induction m with
 | zero => intro d acc s v s' _ _ e; cases e
 | succ m ih =>
  intro d acc s v s' h0 hs e hc ha
  have iv := cB hP m
  have stp := (cB hP (m + 1)).loop d acc s v s' hs e
  have hlt := stp.lt hc
  have e : bZ l (bC l P m) d acc s = some (v, s') := e
  show bZ l' (bC l' P' m) d (dI b acc) (shS k s) = _
  have c0 := aOj iv hs e hc
  have his : isS l' (shS k s) 4 [125] = isS l s 4 [125] := by
   rcases Nat.eq_or_lt_of_le (show s.a ≤ n by omega) with q | q
   ·unfold isS isF
    show (cC s && (decide ((aC l' (s.a + k)).k = 4) && decide ((aC l' (s.a + k)).t = [125]))) = _
    rw [q, hz]
    rfl
   ·exact t.is h0 q 4 [125]
  unfold bZ at e ⊢
  rw [show cC (shS k s) = cC s from rfl, his]
  rw [eS.2 c0] at e ⊢
  simp only at e ⊢
  cases h1 : isS l s 4 [125] with
  | true => rw [h1] at e; cases e; simp only; rw [kZ]
  | false =>
   rw [h1] at e
   simp only at e ⊢
   cases h2 : (bC l P m).stmt d s with
   | none => simp only [h2] at e; cases e
   | some q =>
    obtain ⟨x, s1⟩ := q
    simp only [h2] at e
    have m1 := iv.stmt _ _ _ _ hs h2
    have m2 := iv.loop _ _ _ _ _ m1.len e
    have c1 := m2.fine hc
    have := m2.lt hc
    rw [(uH t hP (by omega) m).stmt d s h0 hs x s1 h2 c1 (by omega)]
    simp only
    have := ih d (acc ++ [x]) s1 v s' (by have := m1.le; omega) m1.len e hc ha
    rw [rV] at this
    exact this
end
end Go.VM
end
