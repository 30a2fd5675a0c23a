/- laid for this seat: VzI VzT VzU VzV VzW VzX VzY -/
import Derived.Test.YtipiffhjilidlaaDoorVg9
import Derived.Test.YtipiffhjilidlaaDoorVg7
section
/- Statements: the calls at the head of the laws. -/
set_option maxRecDepth 100000
set_option linter.unusedVariables false
set_option linter.unusedSimpArgs false
namespace Go.VM
open Go.RowKit
def knownB (l : List Tz) (F : Nat) : Bool := (List.range (l.length + 1)).all fun a => !((fns l F).expr 1 a 0).isOut
theorem known_of {l : List Tz} {F : Nat} (h : knownB l F = true) : ∀ a, a ≤ l.length → ((fns l F).expr 1 a 0).isOut = false := by
 intro a ha
 have := List.all_eq_true.1 h a (List.mem_range.2 (by omega))
 simpa using this
def w1 : List Nat := [123, 108, 101, 116, 32, 120, 61, 49, 59, 105, 102, 32, 120, 60, 50, 123, 125, 101, 108, 115, 101, 123, 114, 101, 116, 117, 114, 110, 59, 125, 125]
def w2 : List Nat := [123, 120, 61, 59, 125]
def Y1 : List Tz := (lexR w1).1.map toZ
def Y2 : List Tz := (lexR w2).1.map toZ
def B1 : List Sx := [.mk 1 1 [120] false (.mk 1 7 8 [] 1 zT []) [] [], .mk 4 9 [] true (.mk 9 12 15 [60] 0 zT [.mk 4 12 13 [120] 0 zT [], .mk 1 14 15 [] 2 zT []]) [] [.mk 3 22 [] false zX [] []]]
theorem allw1 : (lexR w1).2 = (0, 0) := by kernel_rfl
theorem allw2 : (lexR w2).2 = (0, 0) := by kernel_rfl
theorem kn1 : knownB Y1 60 = true := by kernel_rfl
theorem kn2 : knownB Y2 60 = true := by kernel_rfl
theorem bl1 : (sfns Y1 (fun a => (fns Y1 60).expr 1 a 0) 40).block 0 ⟨0, 0, 0⟩ = some (B1, ⟨18, 0, 0⟩) := by kernel_rfl
theorem bl2 : (sfns Y2 (fun a => (fns Y2 60).expr 1 a 0) 40).block 0 ⟨0, 0, 0⟩ = some ([.mk 2 1 [120] false zX [] []], ⟨3, 3, 5⟩) := by kernel_rfl
theorem len1 : Y1.length < 19999 := by decide
theorem len2 : Y2.length < 19999 := by decide
theorem all_ok {s : List Nat} (h8 : ∀ c ∈ s, c < 256) (hl : s.length < big) (h : (lexR s).2 = (0, 0)) : SCall Go.Proofs.Tryd.prog [0] 12 [.str s] none ⟨1000, og tOl, []⟩ (.ret (.tup [lsV ((lexR s).1.map toZ), .agg (dg 0 0)])) none ⟨1000, og tOl, []⟩ := by
 have a := all_at s h8 hl
 unfold allV at a
 rw [h] at a
 have e : V.lst (List.map encTk (lexR s).1) .unk = lsV ((lexR s).1.map toZ) := by unfold lsV; rw [encTks_Z]
 rw [← e]
 exact a
theorem awakeS_sp : SCall Go.Proofs.Tryd.prog [0] 16 [] none ⟨1000, og tOl, []⟩ (.ret (.bool true)) none ⟨1000, og tOl, []⟩ := by
 have a1 := all_ok (s := w1) (by decide) (by decide) allw1
 have a2 := all_ok (s := w2) (by decide) (by decide) allw2
 have p1 := sparse_sp (parse_ok Y1 len1 (by decide) 60 (known_of kn1)) (by have := len1; omega) 40 0 (Nat.zero_le _) bl1
 have p2 := sparse_sp (parse_ok Y2 len2 (by decide) 60 (known_of kn2)) (by have := len2; omega) 40 0 (Nat.zero_le _) bl2
 rw [show (lexR w1).1.map toZ = Y1 from rfl] at a1
 rw [show (lexR w2).1.map toZ = Y2 from rfl] at a2
 rw [show stV (B1, ⟨18, 0, 0⟩) = .tup [.lst (encSxs B1) .unk, .int .i64 18, .agg (dgX 0 0)] from rfl] at p1
 rw [show stV ([.mk 2 1 [120] false zX [] []], ⟨3, 3, 5⟩) = .tup [.lst [] (.ex 0), .int .i64 0, .agg (dgX 3 5)] from rfl] at p2
 generalize Y1 = Z1 at a1 p1
 generalize Y2 = Z2 at a2 p2
 refine SCall.listed (fn := Go.Proofs.Tryd.f16) (by kernel_rfl) res16 (by kernel_rfl) (by kernel_rfl) (Nat.le_refl _) rfl ((by exact ⟨tabS_in, trivial⟩)) trivial ?_
 unfold rc16
 repeat (refine WR.seq ?_)
 refine WR.reg (WQ.runS [] 1000 _ _ _ _ rfl (WQ.nilS ?_))
 repeat (refine WR.seq ?_)
 refine WR.reg (WQ.callH rfl rfl rfl rfl rfl a1 .base rfl ?_)
 refine WQ.runS [] 1000 _ _ _ _ rfl (WQ.nilS ?_)
 repeat (refine WR.seq ?_)
 refine WR.reg (WQ.runS [] 1 _ _ _ _ rfl ?_)
 refine WQ.callH rfl rfl rfl rfl rfl (p1 _) .base rfl ?_
 refine WQ.runS [] 1000 _ _ _ _ rfl (WQ.nilS ?_)
 repeat (refine WR.seq ?_)
 refine WR.reg (WQ.callH rfl rfl rfl rfl rfl (SCall.relc a2 _) .base rfl ?_)
 refine WQ.runS [] 1000 _ _ _ _ rfl (WQ.nilS ?_)
 repeat (refine WR.seq ?_)
 refine WR.reg (WQ.runS [] 1 _ _ _ _ rfl ?_)
 refine WQ.callH rfl rfl rfl rfl rfl (p2 _) .base rfl ?_
 refine WQ.runS [] 1000 _ _ _ _ rfl (WQ.nilS ?_)
 repeat (refine WR.seq ?_)
 refine WR.reg (WQ.runS [] 1000 _ _ _ _ rfl (WQ.nilS ?_))
 repeat (refine WR.seq ?_)
 refine WR.condF rfl (WR.skip ?_)
 repeat (refine WR.seq ?_)
 refine WR.reg (WQ.runS [] 1000 _ _ _ _ rfl (WQ.nilS ?_))
 exact WR.ret ⟨rfl, rfl, ⟨_, rfl, VLe.refl _⟩, fun _ _ => rfl⟩
end Go.VM
end
section
/- Statements: the same tokens elsewhere give the same statements, moved. -/
set_option maxRecDepth 100000
set_option linter.unusedVariables false
set_option linter.unusedSimpArgs false
namespace Go.VM
open Go.RowKit
mutual
def shSx (b : Int) : Sx → Sx
 | .mk k a nm has x body els => .mk k (a + b) nm has (match Nat.beq k 3 && !has with | true => x | false => shX b x) (shSxs b body) (shSxs b els)
def shSxs (b : Int) : List Sx → List Sx
 | [] => []
 | x :: l => shSx b x :: shSxs b l
end
theorem shSxs_app (b : Int) : ∀ l m : List Sx, shSxs b (l ++ m) = shSxs b l ++ shSxs b m
 | [], m => rfl
 | x :: l, m => by simp only [shSxs, List.cons_append, shSxs_app b l m]
def shS (k : Nat) (s : Sr) : Sr := ⟨s.a + k, s.p, s.c⟩
def RlS {α : Type} (n k : Nat) (sh : α → α) (r r' : Option (α × Sr)) : Prop := ∀ v s', r = some (v, s') → s'.c = 0 → s'.a ≤ n → r' = some (sh v, shS k s')
structure TokS (lo n k : Nat) (b : Int) (l l' : List Tz) (P P' : Nat → R Ex) : Prop where
 tok : ∀ i, lo ≤ i → i < n → nowF l' (i + k) = shZ b (nowF l i)
 els : isF l' (n + k) 5 sElse = false
 expr : ∀ a x a', lo ≤ a → P a = .ok x a' → a' < n → stopB (nowF l a') = true → P' (a + k) = .ok (shX b x) (a' + k)
section
variable {lo n k : Nat} {b : Int} {l l' : List Tz} {P P' : Nat → R Ex}
theorem TokS.is (t : TokS lo n k b l l' P P') {s : Sr} (h0 : lo ≤ s.a) (h : s.a < n) (kk : Int) (x : List Nat) : isS l' (shS k s) kk x = isS l s kk x := by
 unfold isS isF
 show (fineS s && (decide ((nowF l' (s.a + k)).k = kk) && decide ((nowF l' (s.a + k)).t = x))) = _
 rw [t.tok _ h0 h]
 rfl
theorem shS_next (s : Sr) : nextS (shS k s) = shS k (nextS s) := by
 unfold nextS shS
 simp only
 rw [show s.a + k + 1 = s.a + 1 + k by omega]
theorem must_fine {s : Sr} {x : List Nat} (h : (mustS l s x).c = 0) : isS l s 4 x = true ∧ mustS l s x = nextS s ∧ isF l s.a 4 x = true := by
 unfold mustS at h ⊢
 cases hi : isS l s 4 x with
 | true => exact ⟨rfl, rfl, (isS_t hi).2⟩
 | false =>
  rw [hi] at h
  exfalso
  unfold failS at h
  cases hf : fineS s with
  | true =>
   rw [hf] at h
   have h : (5 : Int) = 0 := h
   exact absurd h (by decide)
  | false =>
   rw [hf] at h
   exact (of_decide_eq_false hf) h
theorem fail_fine {s : Sr} {c : Int} (hc : c ≠ 0) (h : (failS l s c).c = 0) : False := by
 unfold failS at h
 cases hf : fineS s with
 | true => rw [hf] at h; exact hc h
 | false => rw [hf] at h; exact (of_decide_eq_false hf) h
theorem TokS.must (t : TokS lo n k b l l' P P') {s : Sr} (h0 : lo ≤ s.a) {x : List Nat} (h : (mustS l s x).c = 0) (hn : (mustS l s x).a ≤ n) : mustS l' (shS k s) x = shS k (mustS l s x) := by
 obtain ⟨h1, h2, h3⟩ := must_fine h
 rw [h2] at hn ⊢
 have hn : s.a + 1 ≤ n := hn
 unfold mustS
 rw [t.is h0 (by omega), h1]
 exact shS_next s
theorem expr_fine (hP : ParseOk l P) {s : Sr} (hs : s.a ≤ l.length) (h : (exprS P s).2.c = 0) : s.c = 0 ∧ ∃ x a', P s.a = .ok x a' ∧ exprS P s = (x, ⟨a', 0, 0⟩) := by
 unfold exprS at h ⊢
 cases hf : fineS s with
 | false => rw [hf] at h; exact absurd h (of_decide_eq_false hf)
 | true =>
  rw [hf] at h
  refine ⟨fineS_c.1 hf, ?_⟩
  cases hr : P s.a with
  | ok x a' => exact ⟨x, a', rfl, rfl⟩
  | er a d p c => rw [hr] at h; exact absurd h (hP.er _ _ _ _ _ hr)
  | out => have := hP.known _ hs; rw [hr] at this; cases this
theorem TokS.exp (t : TokS lo n k b l l' P P') (hP : ParseOk l P) {s : Sr} (h0 : lo ≤ s.a) (hs : s.a ≤ l.length) (h : (exprS P s).2.c = 0) (hn : (exprS P s).2.a < n) (hst : stopB (nowF l (exprS P s).2.a) = true) : exprS P' (shS k s) = (shX b (exprS P s).1, shS k (exprS P s).2) := by
 obtain ⟨h1, x, a', h2, h3⟩ := expr_fine hP hs h
 rw [h3] at hn hst ⊢
 have e := t.expr _ _ _ h0 h2 hn hst
 unfold exprS
 rw [show fineS (shS k s) = true from decide_eq_true h1]
 show (match P' (s.a + k) with | .ok x n => (x, (⟨n, 0, 0⟩ : Sr)) | .er _ _ p c => (zX, ⟨s.a + k, p, c⟩) | .out => (zX, shS k s)) = _
 rw [e]
 rfl
theorem stop_of {a : Nat} {x : List Nat} (h : isF l a 4 x = true) (hx : x = [59] ∨ x = [123]) : stopB (nowF l a) = true := by
 unfold isF at h
 simp only [Bool.and_eq_true, decide_eq_true_eq] at h
 unfold stopB
 rw [h.1, h.2]
 rcases hx with rfl | rfl <;> rfl
theorem TokS.val (t : TokS lo n k b l l' P P') (hP : ParseOk l P) {s : Sr} (h0 : lo ≤ s.a) (hs : s.a ≤ l.length) {kk : Nat} (hk : Nat.beq kk 3 = false) {p : Int} {nm : List Nat} (h : (valS l P kk p nm s).2.c = 0) (hn : (valS l P kk p nm s).2.a ≤ n) :
  valS l' P' kk (p + b) nm (shS k s) = (shSx b (valS l P kk p nm s).1, shS k (valS l P kk p nm s).2) := by
 have m1 := must_stp hs (x := [61])
 have m2 := expr_stp hP m1.len
 have m3 := must_stp m2.len (x := [59])
 unfold valS at h hn ⊢
 have h : (mustS l (exprS P (mustS l s [61])).2 [59]).c = 0 := h
 have hn : (mustS l (exprS P (mustS l s [61])).2 [59]).a ≤ n := hn
 have c2 := m3.fine h
 have c1 := m2.fine c2
 obtain ⟨q1, q2, q3⟩ := must_fine h
 have a1 : (mustS l s [61]).a ≤ n := by have := m2.le; have := m3.le; omega
 have a2 : (exprS P (mustS l s [61])).2.a < n := by have := m3.lt h; omega
 rw [t.must h0 c1 a1, t.exp hP (by have := m1.le; omega) m1.len c2 a2 (stop_of q3 (.inl rfl)), t.must (by have := m1.le; have := m2.le; omega) h hn]
 simp only [shSx, shSxs, hk, Bool.false_and]
structure SimS (lo n k : Nat) (b : Int) (l : List Tz) (f f' : Sf) : Prop where
 block : ∀ d s, lo ≤ s.a → s.a ≤ l.length → RlS n k (shSxs b) (f.block d s) (f'.block d (shS k s))
 loop : ∀ d acc s, lo ≤ s.a → s.a ≤ l.length → RlS n k (shSxs b) (f.loop d acc s) (f'.loop d (shSxs b acc) (shS k s))
 stmt : ∀ d s, lo ≤ s.a → s.a ≤ l.length → RlS n k (shSx b) (f.stmt d s) (f'.stmt d (shS k s))
theorem sim_stmt (t : TokS lo n k b l l' P P') (hP : ParseOk l P) (hn : n ≤ l.length) {f f' : Sf} (iv : InvS l f) (blk : ∀ d s v s', s.a ≤ l.length → f.block d s = some (v, s') → s'.c = 0 → stopB (nowF l s.a) = true) (h : SimS lo n k b l f f') (d : Nat) (s : Sr) (h0 : lo ≤ s.a) (hs : s.a ≤ l.length) : RlS n k (shSx b) (sStmt l P f d s) (sStmt l' P' f' d (shS k s)) := by
 intro v s' e hc ha
 have ivn := inv_next hP iv
 have stp := ivn.stmt d s v s' hs e
 have hlt := stp.lt hc
 have e1 := fun (kk : Int) (x : List Nat) => t.is (s := s) h0 (by omega) kk x
 have hnow : nowF l' (s.a + k) = shZ b (nowF l s.a) := t.tok _ h0 (by omega)
 unfold sStmt at e ⊢
 rw [e1, e1, e1, e1]
 rw [show (shS k s).a = s.a + k from rfl, hnow, shS_next, shS_next]
 rw [show (shZ b (nowF l s.a)).a = (nowF l s.a).a + b from rfl, show (shZ b (nowF l s.a)).t = (nowF l s.a).t from rfl]
 cases h1 : isS l s 5 sLet with
 | true =>
  have n1 := next_stp (isS_lt h1 (by decide))
  rw [h1] at e
  cases hk : decide ((nowF l (s.a + 1)).k = 1) with
  | true =>
   rw [hk] at e
   have n2 := now_lt (l := l) (a := s.a + 1) (by rw [of_decide_eq_true hk]; decide)
   have e := Option.some.inj e
   have hv := val_stp hP (s := nextS (nextS s)) n2 (k := 1) (p := (nowF l s.a).a) (nm := (nowF l (s.a + 1)).t)
   rw [e] at hv
   have hv1 := hv.lt hc
   have hv1 : s.a + 1 + 1 < s'.a := hv1
   have hk1 := t.tok (s.a + 1) (by omega) (by omega)
   rw [show s.a + k + 1 = s.a + 1 + k by omega, hk1, show (shZ b (nowF l (s.a + 1))).k = (nowF l (s.a + 1)).k from rfl, show (shZ b (nowF l (s.a + 1))).t = (nowF l (s.a + 1)).t from rfl, hk]
   have tv := t.val hP (s := nextS (nextS s)) (by show lo ≤ s.a + 1 + 1; omega) n2 (kk := 1) rfl (p := (nowF l s.a).a) (nm := (nowF l (s.a + 1)).t) (by rw [e]; exact hc) (by rw [e]; exact ha)
   simp only
   rw [tv, e]
  | false =>
   rw [hk] at e
   have e := Option.some.inj e
   exfalso
   have hf := fail_stp n1.len (c := 5) (by decide)
   have hv := val_stp hP hf.len (k := 1) (p := (nowF l s.a).a) (nm := [])
   rw [e] at hv
   exact fail_fine (by decide) (hv.fine hc)
 | false =>
 rw [h1] at e
 simp only at e ⊢
 cases h2 : isS l s 5 sRet with
 | true =>
  have n1 := next_stp (isS_lt h2 (by decide))
  rw [h2] at e
  simp only at e ⊢
  have q0 := t.is (s := nextS s) (kk := 4) (x := [59]) (by show lo ≤ s.a + 1; omega)
  cases h3 : isS l (nextS s) 4 [59] with
  | true =>
   rw [h3] at e
   cases e
   have ha : s.a + 1 + 1 ≤ n := ha
   rw [q0 (by show s.a + 1 < n; omega), h3]
   rfl
  | false =>
   rw [h3] at e
   cases e
   have m2 := expr_stp hP n1.len
   have m3 := must_stp m2.len (x := [59])
   have c2 := m3.fine hc
   obtain ⟨q1, q2, q3⟩ := must_fine hc
   have hle : s.a + 1 ≤ (exprS P (nextS s)).2.a := m2.le
   have a2 : (exprS P (nextS s)).2.a < n := by have := m3.lt hc; omega
   rw [q0 (by show s.a + 1 < n; omega), h3]
   simp only
   rw [t.exp hP (by show lo ≤ s.a + 1; omega) n1.len c2 a2 (stop_of q3 (.inl rfl))]
   simp only
   rw [t.must (by omega) hc ha]
   rfl
 | false =>
 rw [h2] at e
 simp only at e ⊢
 cases h3 : isS l s 5 sIf with
 | true =>
  have n1 := next_stp (isS_lt h3 (by decide))
  have m2 := expr_stp hP n1.len
  have hle : s.a + 1 ≤ (exprS P (nextS s)).2.a := m2.le
  rw [h3] at e
  simp only at e ⊢
  cases hb : f.block d (exprS P (nextS s)).2 with
  | none => simp only [hb] at e; cases e
  | some q =>
   obtain ⟨bb, s1⟩ := q
   have m3 := iv.block _ _ _ _ m2.len hb
   simp only [hb] at e
   have main : s1.c = 0 → s1.a ≤ n → exprS P' (shS k (nextS s)) = (shX b (exprS P (nextS s)).1, shS k (exprS P (nextS s)).2) ∧ f'.block d (shS k (exprS P (nextS s)).2) = some (shSxs b bb, shS k s1) := by
    intro c1 a1
    have c2 := m3.fine c1
    have a2 : (exprS P (nextS s)).2.a < n := by have := m3.lt c1; omega
    exact ⟨t.exp hP (by show lo ≤ s.a + 1; omega) n1.len c2 a2 (blk _ _ _ _ m2.len hb c1), h.block d _ (by omega) m2.len _ _ hb c1 a1⟩
   cases h4 : isS l s1 5 sElse with
   | false =>
    rw [h4] at e
    cases e
    obtain ⟨m4, m5⟩ := main hc ha
    rw [m4]
    simp only
    rw [m5]
    simp only
    have : isS l' (shS k s') 5 sElse = false := by
     rcases Nat.eq_or_lt_of_le ha with q | q
     ·unfold isS
      rw [show (shS k s').a = n + k by show s'.a + k = _; rw [q], t.els]
      cases fineS (shS k s') <;> rfl
     ·rw [t.is (by have := m3.le; omega) q, h4]
    rw [this]
    rfl
   | true =>
    rw [h4] at e
    have n4 := next_stp (isS_lt h4 (by decide))
    cases hb2 : f.block d (nextS s1) with
    | none => simp only [hb2] at e; cases e
    | some q =>
     obtain ⟨b2, s2⟩ := q
     have m6 := iv.block _ _ _ _ n4.len hb2
     simp only [hb2] at e
     cases e
     have c1 := n4.fine (m6.fine hc)
     have a1 : s1.a + 1 < s'.a := m6.lt hc
     obtain ⟨m4, m5⟩ := main c1 (by omega)
     rw [m4]
     simp only
     rw [m5]
     simp only
     rw [t.is (by have := m3.le; omega) (by omega), h4]
     simp only
     rw [shS_next, h.block d _ (by have := m3.le; show lo ≤ s1.a + 1; omega) n4.len _ _ hb2 hc ha]
     rfl
 | false =>
 rw [h3] at e
 simp only at e ⊢
 cases h4 : isS l s 5 sFor with
 | true =>
  have n1 := next_stp (isS_lt h4 (by decide))
  have m2 := expr_stp hP n1.len
  have hle : s.a + 1 ≤ (exprS P (nextS s)).2.a := m2.le
  rw [h4] at e
  simp only at e ⊢
  cases hb : f.block d (exprS P (nextS s)).2 with
  | none => simp only [hb] at e; cases e
  | some q =>
   obtain ⟨bb, s1⟩ := q
   have m3 := iv.block _ _ _ _ m2.len hb
   simp only [hb] at e
   cases e
   have c2 := m3.fine hc
   have a2 : (exprS P (nextS s)).2.a < n := by have := m3.lt hc; omega
   rw [t.exp hP (by show lo ≤ s.a + 1; omega) n1.len c2 a2 (blk _ _ _ _ m2.len hb hc)]
   simp only
   rw [h.block d _ (by omega) m2.len _ _ hb hc ha]
   rfl
 | false =>
 rw [h4] at e
 simp only at e ⊢
 have two : s.a + 1 < n := by
  cases h5 : setB l s.a with
  | true =>
   rw [h5] at e
   have h5' := h5
   unfold setB at h5'
   rw [Bool.and_eq_true] at h5'
   have n2 := now_lt (l := l) (a := s.a) (by rw [of_decide_eq_true h5'.1]; decide)
   have e := Option.some.inj e
   have hv := val_stp hP (s := nextS s) n2 (k := 2) (p := (nowF l s.a).a) (nm := (nowF l s.a).t)
   rw [e] at hv
   have hv1 : s.a + 1 < s'.a := hv.lt hc
   omega
  | false =>
   rw [h5] at e
   cases e
   have m2 := expr_stp hP hs
   have m3 := must_stp m2.len (x := [59])
   have := m3.lt hc
   have := m2.lt (m3.fine hc)
   omega
 have hset : setB l' (s.a + k) = setB l s.a := by
  unfold setB
  rw [hnow, show s.a + k + 1 = s.a + 1 + k by omega, t.tok (s.a + 1) (by omega) two]
  rfl
 rw [hset]
 cases h5 : setB l s.a with
 | true =>
  rw [h5] at e
  have h5' := h5
  unfold setB at h5'
  rw [Bool.and_eq_true] at h5'
  have n2 := now_lt (l := l) (a := s.a) (by rw [of_decide_eq_true h5'.1]; decide)
  have e := Option.some.inj e
  have tv := t.val hP (s := nextS s) (by show lo ≤ s.a + 1; omega) n2 (kk := 2) rfl (p := (nowF l s.a).a) (nm := (nowF l s.a).t) (by rw [e]; exact hc) (by rw [e]; exact ha)
  simp only
  rw [tv, e]
 | false =>
  rw [h5] at e
  cases e
  have m2 := expr_stp hP hs
  have m3 := must_stp m2.len (x := [59])
  have c2 := m3.fine hc
  obtain ⟨q1, q2, q3⟩ := must_fine hc
  have a2 : (exprS P s).2.a < n := by have := m3.lt hc; omega
  simp only
  rw [t.exp hP h0 hs c2 a2 (stop_of q3 (.inl rfl))]
  simp only
  rw [t.must (by have := m2.le; omega) hc ha]
  rfl
theorem loop_c {d : Nat} {acc : List Sx} {f : Sf} (iv : InvS l f) {s : Sr} (hs : s.a ≤ l.length) {v : List Sx} {s' : Sr} (e : sLoop l f d acc s = some (v, s')) (hc : s'.c = 0) : s.c = 0 := by
 unfold sLoop at e
 cases hf : fineS s with
 | true => exact fineS_c.1 hf
 | false => rw [hf] at e; cases e; exact hc
theorem blk_next (l : List Tz) (hP : ParseOk l P) (m : Nat) : ∀ d s v s', s.a ≤ l.length → (sfns l P m).block d s = some (v, s') → s'.c = 0 → stopB (nowF l s.a) = true := by
 intro d s v s' hs e hc
 cases m with
 | zero => cases e
 | succ m =>
  have e : sBlock l (sfns l P m) d s = some (v, s') := e
  unfold sBlock at e
  split at e
  ·cases e; exact (fail_fine (by decide) hc).elim
  ·have h1 := ((sfns_inv hP m).loop _ _ _ _ _ (must_stp hs).len e).fine hc
   exact stop_of (must_fine h1).2.2 (.inr rfl)
theorem sim_nextS (t : TokS lo n k b l l' P P') (hP : ParseOk l P) (hn : n ≤ l.length) {f f' : Sf} (iv : InvS l f) (blk : ∀ d s v s', s.a ≤ l.length → f.block d s = some (v, s') → s'.c = 0 → stopB (nowF l s.a) = true) (h : SimS lo n k b l f f') : SimS lo n k b l ⟨sBlock l f, sLoop l f, sStmt l P f⟩ ⟨sBlock l' f', sLoop l' f', sStmt l' P' f'⟩ := by
 refine ⟨fun d s h0 hs => ?_, fun d acc s h0 hs => ?_, fun d s h0 hs => sim_stmt t hP hn iv blk h d s h0 hs⟩
 ·intro v s' e hc ha
  have stp := (inv_next hP iv).block d s v s' hs e
  have hlt := stp.lt hc
  have hnow : nowF l' (s.a + k) = shZ b (nowF l s.a) := t.tok _ h0 (by omega)
  have e : sBlock l f d s = some (v, s') := e
  show sBlock l' f' d (shS k s) = _
  have hdp : deepB l' d (shS k s) = deepB l d s := by
   unfold deepB
   rw [show (shS k s).a = s.a + k from rfl, hnow]
   rfl
  unfold sBlock at e ⊢
  rw [hdp]
  cases hd : deepB l d s with
  | true => rw [hd] at e; cases e; exact (fail_fine (by decide) hc).elim
  | false =>
   rw [hd] at e
   simp only at e ⊢
   have ms := must_stp hs (x := [123])
   have lp := iv.loop _ _ _ _ _ ms.len e
   rw [t.must h0 (lp.fine hc) (by have := lp.le; omega)]
   exact h.loop (d + 1) [] _ (by have := ms.le; omega) ms.len v s' e hc ha
 ·intro v s' e hc ha
  have stp := (inv_next hP iv).loop d acc s v s' hs e
  have hlt := stp.lt hc
  have e : sLoop l f d acc s = some (v, s') := e
  show sLoop l' f' d (shSxs b acc) (shS k s) = _
  have c0 := loop_c iv hs e hc
  unfold sLoop at e ⊢
  rw [show fineS (shS k s) = fineS s from rfl, t.is h0 (by omega)]
  rw [fineS_c.2 c0] at e ⊢
  simp only at e ⊢
  cases h1 : isS l s 4 [125] with
  | true => rw [h1] at e; cases e; simp only; rw [shS_next]
  | false =>
   rw [h1] at e
   simp only at e ⊢
   cases h2 : f.stmt d s with
   | none => simp only [h2] at e; cases e
   | some q =>
    obtain ⟨x, s1⟩ := q
    simp only [h2] at e
    have m1 := iv.stmt _ _ _ _ hs h2
    have m2 := iv.loop _ _ _ _ _ m1.len e
    rw [h.stmt d s h0 hs x s1 h2 (m2.fine hc) (by have := m2.le; omega)]
    simp only
    have := h.loop d (acc ++ [x]) s1 (by have := m1.le; omega) m1.len v s' e hc ha
    rw [shSxs_app] at this
    exact this
theorem sfns_sim (t : TokS lo n k b l l' P P') (hP : ParseOk l P) (hn : n ≤ l.length) : ∀ m, SimS lo n k b l (sfns l P m) (sfns l' P' m)
 | 0 => ⟨fun _ _ _ _ _ _ e => (by cases e), fun _ _ _ _ _ _ _ e => (by cases e), fun _ _ _ _ _ _ e => (by cases e)⟩
 | m + 1 => sim_nextS t hP hn (sfns_inv hP m) (blk_next l hP m) (sfns_sim t hP hn m)
end
end Go.VM
end
section
/- Statements: how much there is of what was read. -/
set_option maxRecDepth 100000
set_option linter.unusedVariables false
set_option linter.unusedSimpArgs false
namespace Go.VM
open Go.RowKit
mutual
def okT (K : Nat) : Tx → Prop
 | .mk _ _ _ _ l => l.length ≤ K ∧ okTs K l
def okTs (K : Nat) : List Tx → Prop
 | [] => True
 | x :: l => okT K x ∧ okTs K l
end
mutual
def okX (K : Nat) : Ex → Prop
 | .mk _ _ _ _ _ t args => okT K t ∧ args.length ≤ K ∧ okXs K args
def okXs (K : Nat) : List Ex → Prop
 | [] => True
 | x :: l => okX K x ∧ okXs K l
end
mutual
def okS (K : Nat) : Sx → Prop
 | .mk _ _ _ _ x body els => okX K x ∧ (body.length ≤ K ∧ okSs K body) ∧ (els.length ≤ K ∧ okSs K els)
def okSs (K : Nat) : List Sx → Prop
 | [] => True
 | x :: l => okS K x ∧ okSs K l
end
theorem okXs_app {K : Nat} : ∀ {l : List Ex} {x : Ex}, okXs K l → okX K x → okXs K (l ++ [x])
 | [], x, _, h => ⟨h, trivial⟩
 | y :: l, x, h, k => ⟨h.1, okXs_app h.2 k⟩
theorem okSs_app {K : Nat} : ∀ {l : List Sx} {x : Sx}, okSs K l → okS K x → okSs K (l ++ [x])
 | [], x, _, h => ⟨h, trivial⟩
 | y :: l, x, h, k => ⟨h.1, okSs_app h.2 k⟩
theorem okTs_mem {K : Nat} : ∀ {l : List Tx} {x : Tx}, okTs K l → x ∈ l → okT K x
 | y :: l, x, h, hm => by
  cases hm with
  | head => exact h.1
  | tail _ hm => exact okTs_mem h.2 hm
theorem okXs_mem {K : Nat} : ∀ {l : List Ex} {x : Ex}, okXs K l → x ∈ l → okX K x
 | y :: l, x, h, hm => by
  cases hm with
  | head => exact h.1
  | tail _ hm => exact okXs_mem h.2 hm
theorem okSs_mem {K : Nat} : ∀ {l : List Sx} {x : Sx}, okSs K l → x ∈ l → okS K x
 | y :: l, x, h, hm => by
  cases hm with
  | head => exact h.1
  | tail _ hm => exact okSs_mem h.2 hm
theorem okT_z {K : Nat} : okT K zT := ⟨Nat.zero_le _, trivial⟩
theorem okX_z {K : Nat} : okX K zX := ⟨okT_z, Nat.zero_le _, trivial⟩
theorem okX_leaf {K k : Nat} {a e n : Int} {nm : List Nat} : okX K (.mk k a e nm n zT []) := ⟨okT_z, Nat.zero_le _, trivial⟩
theorem okT_wrap {K : Nat} (hK : 1 ≤ K) : ∀ (ls : List Int) {x : Tx}, okT K x → okT K (tyWrap ls x)
 | [], x, h => h
 | p :: ls, x, h => ⟨hK, okT_wrap hK ls h, trivial⟩
theorem okT_ty {K : Nat} (hK : 1 ≤ K) {l : List Tz} {a : Nat} {x : Tx} {a2 : Nat} (h : tyF l a = .ok x a2) : okT K x := by
 unfold tyF at h
 split at h
 ·cases h
 ·split at h
  ·rename_i y a3 hb
   cases h
   refine okT_wrap hK _ ?_
   unfold tyBase at hb
   split at hb
   ·cases hb; exact ⟨Nat.zero_le _, trivial⟩
   ·split at hb
    ·split at hb
     ·split at hb
      ·cases hb; exact ⟨Nat.zero_le _, trivial⟩
      ·cases hb
     ·cases hb; exact ⟨Nat.zero_le _, trivial⟩
    ·cases hb
  ·cases h
  ·cases h
structure BdF (l : List Tz) (f : Fns) : Prop where
 expr : ∀ lv a d x a', f.expr lv a d = .ok x a' → okX (l.length + 2) x
 oper : ∀ a d x a', f.oper a d = .ok x a' → okX (l.length + 2) x
 prim : ∀ a d x a', f.prim a d = .ok x a' → okX (l.length + 2) x
 list : ∀ to a d r a', f.list to a d = .ok r a' → okXs (l.length + 2) r.1 ∧ r.1.length ≤ l.length
 bin : ∀ lv x a d y a', okX (l.length + 2) x → f.bin lv x a d = .ok y a' → okX (l.length + 2) y
 post : ∀ x a d y a', okX (l.length + 2) x → f.post x a d = .ok y a' → okX (l.length + 2) y
 elts : ∀ acc a d es a', okXs (l.length + 2) acc → acc.length ≤ a → f.elts acc a d = .ok es a' → okXs (l.length + 2) es ∧ es.length ≤ a'
theorem bd_next {l : List Tz} {f : Fns} (pf : ProgF f) (h : BdF l f) : BdF l ⟨nExpr f, nOper l f, nPrim l f, nList l f, nBin l f, nPost l f, nElts l f⟩ := by
 refine ⟨fun lv a d x a' e => ?_, fun a d x a' e => ?_, fun a d x a' e => ?_, fun to a d r a' e => ?_, fun lv x a d y a' hx e => ?_, fun x a d y a' hx e => ?_, fun acc a d es a' hacc hlen e => ?_⟩
 ·have e : nExpr f lv a d = .ok x a' := e
  unfold nExpr at e
  split at e
  ·exact h.oper _ _ _ _ e
  ·obtain ⟨y, a1, e1, e2⟩ := bind_ok e
   exact h.bin _ _ _ _ _ _ (h.expr _ _ _ _ _ e1) e2
 ·have e : nOper l f a d = .ok x a' := e
  unfold nOper at e
  split at e
  ·obtain ⟨y, a1, e1, e2⟩ := bind_ok e
   cases e2
   exact ⟨okT_z, by simp, h.oper _ _ _ _ (within_okD e1), trivial⟩
  ·obtain ⟨y, a1, e1, e2⟩ := bind_ok e
   exact h.post _ _ _ _ _ (h.prim _ _ _ _ e1) e2
 ·have e : nPrim l f a d = .ok x a' := e
  unfold nPrim at e
  split at e
  ·obtain ⟨n, a1, e1, e2⟩ := bind_ok e
   cases e2
   exact okX_leaf
  ·split at e
   ·split at e
    ·cases e; exact okX_leaf
    ·cases e
   ·split at e
    ·cases e; exact okX_leaf
    ·split at e
     ·cases e; exact okX_leaf
     ·split at e
      ·cases e; exact okX_leaf
      ·split at e
       ·obtain ⟨y, a1, e1, e2⟩ := bind_ok e
        obtain ⟨z, a2, e3, e4⟩ := bind_ok e2
        cases e4
        exact h.expr _ _ _ _ _ (within_okD e1)
       ·split at e
        ·obtain ⟨ty, a1, r, ht, hi, e1, rfl⟩ := made_okD e
         have := h.list _ _ _ _ _ e1
         exact ⟨okT_ty (by omega) ht, by omega, this.1⟩
        ·cases e
 ·have e : nList l f to a d = .ok r a' := e
  unfold nList at e
  obtain ⟨es, a1, e1, e2⟩ := bind_ok e
  obtain ⟨z, a3, e3, e4⟩ := bind_ok e2
  cases e4
  have hk := now_lt (l := l) (a := a1) (by rw [(must_okD e3).2.2]; decide)
  have e1 := within_okD e1
  unfold nElt0 at e1
  split at e1
  ·cases e1; exact ⟨trivial, Nat.zero_le _⟩
  ·have := h.elts [] _ _ _ _ trivial (Nat.zero_le _) e1
   exact ⟨this.1, by show es.length ≤ _; omega⟩
 ·have e : nBin l f lv x a d = .ok y a' := e
  unfold nBin at e
  split at e
  ·obtain ⟨z, a2, e1, e2⟩ := bind_ok e
   refine h.bin _ _ _ _ _ _ ?_ e2
   exact ⟨okT_z, by simp, hx, h.expr _ _ _ _ _ e1, trivial⟩
  ·cases e; exact hx
 ·have e : nPost l f x a d = .ok y a' := e
  unfold nPost at e
  split at e
  ·split at e
   ·refine h.post _ _ _ _ _ ?_ e
    exact ⟨okT_z, by simp, hx, trivial⟩
   ·cases e
  ·split at e
   ·obtain ⟨r, a1, e1, e2⟩ := bind_ok e
    have := h.list _ _ _ _ _ e1
    refine h.post _ _ _ _ _ ?_ e2
    exact ⟨okT_z, by simp; omega, hx, this.1⟩
   ·split at e
    ·obtain ⟨z, a1, e1, e2⟩ := bind_ok e
     obtain ⟨w, a2, e3, e4⟩ := bind_ok e2
     refine h.post _ _ _ _ _ ?_ e4
     exact ⟨okT_z, by simp, hx, h.expr _ _ _ _ _ (within_okD e1), trivial⟩
    ·cases e; exact hx
 ·have e : nElts l f acc a d = .ok es a' := e
  unfold nElts at e
  obtain ⟨x, a1, e1, e2⟩ := bind_ok e
  have p := pf.expr _ _ _ _ _ e1
  have q := okXs_app hacc (h.expr _ _ _ _ _ e1)
  split at e2
  ·exact h.elts _ _ _ _ _ q (by simp; omega) e2
  ·cases e2
   exact ⟨q, by simp; omega⟩
theorem fns_bd (l : List Tz) : ∀ n, BdF l (fns l n)
 | 0 => ⟨fun _ _ _ _ _ e => (by cases e), fun _ _ _ _ e => (by cases e), fun _ _ _ _ e => (by cases e), fun _ _ _ _ _ e => (by cases e), fun _ _ _ _ _ _ _ e => (by cases e), fun _ _ _ _ _ _ e => (by cases e), fun _ _ _ _ _ _ _ e => (by cases e)⟩
 | n + 1 => bd_next (fns_prog l n) (fns_bd l n)
section
variable {l : List Tz} {P : Nat → R Ex}
structure BdS (l : List Tz) (f : Sf) : Prop where
 block : ∀ d s v s', s.a ≤ l.length → f.block d s = some (v, s') → s'.c = 0 → okSs (l.length + 2) v ∧ v.length ≤ l.length
 loop : ∀ d acc s v s', s.a ≤ l.length → okSs (l.length + 2) acc → acc.length ≤ s.a → f.loop d acc s = some (v, s') → s'.c = 0 → okSs (l.length + 2) v ∧ v.length ≤ l.length
 stmt : ∀ d s v s', s.a ≤ l.length → f.stmt d s = some (v, s') → s'.c = 0 → okS (l.length + 2) v
theorem exprS_ok (hx : ∀ a x n, P a = .ok x n → okX (l.length + 2) x) (s : Sr) : okX (l.length + 2) (exprS P s).1 := by
 unfold exprS
 split
 ·split
  ·rename_i h; exact hx _ _ _ h
  ·exact okX_z
  ·exact okX_z
 ·exact okX_z
theorem bdS_next (hP : ParseOk l P) (hx : ∀ a x n, P a = .ok x n → okX (l.length + 2) x) {f : Sf} (iv : InvS l f) (h : BdS l f) : BdS l ⟨sBlock l f, sLoop l f, sStmt l P f⟩ := by
 refine ⟨fun d s v s' hs e hc => ?_, fun d acc s v s' hs ha hl e hc => ?_, fun d s v s' hs e hc => ?_⟩
 ·have e : sBlock l f d s = some (v, s') := e
  unfold sBlock at e
  split at e
  ·cases e; exact (fail_fine (by decide) hc).elim
  ·exact h.loop _ [] _ _ _ (must_stp hs).len trivial (Nat.zero_le _) e hc
 ·have e : sLoop l f d acc s = some (v, s') := e
  unfold sLoop at e
  split at e
  ·cases e; exact ⟨ha, by omega⟩
  ·split at e
   ·cases e; exact ⟨ha, by omega⟩
   ·split at e
    ·rename_i x s1 hx
     have m1 := iv.stmt _ _ _ _ hs hx
     have m2 := iv.loop _ _ _ _ _ m1.len e
     have c1 := m2.fine hc
     have := m1.lt c1
     exact h.loop _ _ _ _ _ m1.len (okSs_app ha (h.stmt _ _ _ _ hs hx c1)) (by simp; omega) e hc
    ·cases e
 ·have e : sStmt l P f d s = some (v, s') := e
  have val : ∀ k p nm s2, okS (l.length + 2) (valS l P k p nm s2).1 := fun k p nm s2 => ⟨exprS_ok hx _, ⟨Nat.zero_le _, trivial⟩, ⟨Nat.zero_le _, trivial⟩⟩
  unfold sStmt at e
  split at e
  ·split at e
   ·have v0 := val 1 (nowF l s.a).a (nowF l (s.a + 1)).t (nextS (nextS s))
    rw [Option.some.inj e] at v0; exact v0
   ·have v0 := val 1 (nowF l s.a).a [] (failS l (nextS s) 5)
    rw [Option.some.inj e] at v0; exact v0
  ·split at e
   ·split at e
    ·cases e; exact ⟨okX_z, ⟨Nat.zero_le _, trivial⟩, ⟨Nat.zero_le _, trivial⟩⟩
    ·cases e; exact ⟨exprS_ok hx _, ⟨Nat.zero_le _, trivial⟩, ⟨Nat.zero_le _, trivial⟩⟩
   ·split at e
    ·rename_i hi
     have n1 := next_stp (isS_lt hi (by decide))
     have m2 := expr_stp hP n1.len
     split at e
     ·cases e
     ·rename_i b s1 hb
      have m3 := iv.block _ _ _ _ m2.len hb
      split at e
      ·rename_i h4
       have n4 := next_stp (isS_lt h4 (by decide))
       split at e
       ·cases e
       ·rename_i b2 s2 hb2
        have m6 := iv.block _ _ _ _ n4.len hb2
        cases e
        have k1 := h.block _ _ _ _ m2.len hb (n4.fine (m6.fine hc))
        have k2 := h.block _ _ _ _ n4.len hb2 hc
        exact ⟨exprS_ok hx _, ⟨by omega, k1.1⟩, ⟨by omega, k2.1⟩⟩
      ·cases e
       have k1 := h.block _ _ _ _ m2.len hb hc
       exact ⟨exprS_ok hx _, ⟨by omega, k1.1⟩, ⟨Nat.zero_le _, trivial⟩⟩
    ·split at e
     ·rename_i hi
      have n1 := next_stp (isS_lt hi (by decide))
      have m2 := expr_stp hP n1.len
      split at e
      ·cases e
      ·rename_i b s1 hb
       cases e
       have k1 := h.block _ _ _ _ m2.len hb hc
       exact ⟨exprS_ok hx _, ⟨by omega, k1.1⟩, ⟨Nat.zero_le _, trivial⟩⟩
     ·split at e
      ·have v0 := val 2 (nowF l s.a).a (nowF l s.a).t (nextS s)
       rw [Option.some.inj e] at v0; exact v0
      ·cases e; exact ⟨exprS_ok hx _, ⟨Nat.zero_le _, trivial⟩, ⟨Nat.zero_le _, trivial⟩⟩
theorem sfns_bd (hP : ParseOk l P) (hx : ∀ a x n, P a = .ok x n → okX (l.length + 2) x) : ∀ n, BdS l (sfns l P n)
 | 0 => ⟨fun _ _ _ _ _ e => (by cases e), fun _ _ _ _ _ _ _ _ e => (by cases e), fun _ _ _ _ _ e => (by cases e)⟩
 | n + 1 => bdS_next hP hx (sfns_inv hP n) (sfns_bd hP hx n)
end
end Go.VM
end
section
/- Statements: the document's comparing, of what is the same. -/
set_option maxRecDepth 100000
set_option linter.unusedVariables false
set_option linter.unusedSimpArgs false
namespace Go.VM
open Go.RowKit
theorem encTxs_map' : ∀ l : List Tx, encTxs l = l.map encTx
 | [] => rfl
 | x :: l => by simp only [encTxs, List.map_cons, encTxs_map' l]
def s3Tm (i : Nat) : TM := [(2, .l 2 0), (3, .l 3 0), (4, .v (.bool false)), (5, .v (.int .i64 i))]
theorem s3_loop {QN : S → Prop} {QX : X → S → Prop} (k : Nat) (a : Int) (p n : List Nat) (args : List Tx) (hb : args.length < big)
  (ih : ∀ y ∈ args, SCall Go.Proofs.Tryd.prog [] 38 [.agg (encTx y), .agg (encTx y)] none ⟨1000, og [], []⟩ (.ret (.bool true)) none ⟨1000, og [], []⟩)
  (h0 : ∀ tm, QX (.exit 0) (SL.toS ⟨tm, [], none, 1000, [], [(3, encTx (.mk k a p n args)), (2, encTx (.mk k a p n args))]⟩)) : ∀ (m i : Nat), i + m = args.length → ∀ lc, TellL lc [(3, encTx (.mk k a p n args)), (2, encTx (.mk k a p n args))] → ∀ tm, TellT tm [(3, encTx (.mk k a p n args)), (2, encTx (.mk k a p n args))] (s3Tm i) →
  WLr Go.Proofs.Tryd.prog [] ⟨Go.Proofs.Tryd.f38.ntmps, none, 38⟩ rc38_L1 (SL.toS ⟨tm, [], none, 1000, [], lc⟩) QN QX := by
 intro m
 induction m with
 | zero =>
  intro i hi lc hlc tm htm
  refine WLr.weak (SW.tellR htm hlc) ?_
  unfold rc38_L1
  refine WLr.of ?_
  repeat (refine WR.seq ?_)
  refine WR.reg (WQ.runS [] 5 _ _ _ _ rfl ?_)
  rw [encTxs_map', List.length_map, show decide ((i : Int) < (args.length : Int)) = false from decide_eq_false (by omega)]
  refine WQ.runS [] 1000 _ _ _ _ rfl (WQ.nilS ?_)
  repeat (refine WR.seq ?_)
  rw [← encTxs_map']
  exact WR.condF rfl (WR.exit (h0 _))
 | succ m ihm =>
  intro i hi lc hlc tm htm
  obtain ⟨y, hy⟩ : ∃ y, args[i]? = some y := ⟨args[i], List.getElem?_eq_getElem (by omega)⟩
  have sc := ih y (List.mem_of_getElem? hy)
  obtain ⟨yk, ya, yp, yn, yl⟩ := y
  refine WLr.weak (SW.tellR htm hlc) ?_
  unfold rc38_L1
  refine WLr.of ?_
  repeat (refine WR.seq ?_)
  refine WR.reg (WQ.runS [] 5 _ _ _ _ rfl ?_)
  rw [encTxs_map', List.length_map, show decide ((i : Int) < (args.length : Int)) = true from decide_eq_true (by omega)]
  refine WQ.runS [] 1000 _ _ _ _ rfl (WQ.nilS ?_)
  rw [← encTxs_map']
  repeat (refine WR.seq ?_)
  refine WR.condT rfl (WR.skip ?_)
  repeat (refine WR.seq ?_)
  refine WR.block ?_
  repeat (refine WR.seq ?_)
  refine WR.dreg hmix (DW.runS [] 3 _ _ _ _ _ _ rfl ?_)
  refine DW.pureS rfl (fun h => ia_at (cs := encTx (.mk yk ya yp yn yl)) rfl rfl (by rw [encTxs_map', List.getElem?_map, hy]; rfl) rfl) rfl ?_
  refine DW.runS [] 4 _ _ _ _ _ _ rfl ?_
  refine DW.pureS rfl (fun h => ia_at (cs := encTx (.mk yk ya yp yn yl)) rfl rfl (by rw [encTxs_map', List.getElem?_map, hy]; rfl) rfl) rfl ?_
  refine DW.runS [] 2 _ _ _ _ _ _ rfl ?_
  refine DW.callH (by repeat (first | exact .nil | refine PendR.passM rfl ?_ | refine PendR.sameM rfl ?_ | refine PendR.lightM rfl ?_)) rfl rfl rfl rfl rfl (SCall.relc sc _) .base rfl ?_
  refine DW.runS [] 1000 _ _ _ _ _ _ rfl (DW.finS (by repeat (first | exact .nil | refine PendR.passM rfl ?_ | refine PendR.sameM rfl ?_ | refine PendR.lightM rfl ?_)) ?_)
  repeat (refine WR.seq ?_)
  refine WR.reg (WQ.runS [] 1000 _ _ _ _ rfl (WQ.nilS ?_))
  repeat (refine WR.seq ?_)
  refine WR.condF rfl (WR.skip ?_)
  unfold rc38_J1
  repeat (refine WR.seq ?_)
  refine WR.reg (WQ.runS [] 2 _ _ _ _ rfl ?_)
  rw [nextB (by omega)]
  refine WQ.runS [] 1000 _ _ _ _ rfl (WQ.nilS ?_)
  refine WIr.again (ihm (i + 1) (by omega) _ ?_ _ ?_)
  ·repeat (first | exact .nil | refine .cons rfl (.inl rfl) ?_)
  ·repeat (first | exact .nil | refine .cons rfl (.v (VLe.refl _)) ?_ | refine .cons rfl (.l _ _ rfl) ?_)
theorem same3_sp (K : Nat) (hK : K < big) : ∀ (N : Nat) (x : Tx), SizeOf.sizeOf x < N → okT K x → SCall Go.Proofs.Tryd.prog [] 38 [.agg (encTx x), .agg (encTx x)] none ⟨1000, og [], []⟩ (.ret (.bool true)) none ⟨1000, og [], []⟩
 | 0, x, h, _ => by omega
 | N + 1, .mk k a p n args, h, ho => by
  obtain ⟨hlen, hsub⟩ := ho
  have ih : ∀ y ∈ args, SCall Go.Proofs.Tryd.prog [] 38 [.agg (encTx y), .agg (encTx y)] none ⟨1000, og [], []⟩ (.ret (.bool true)) none ⟨1000, og [], []⟩ := by
   intro y hy
   refine same3_sp K hK N y ?_ (okTs_mem hsub hy)
   have := List.sizeOf_lt_of_mem hy
   simp only [Tx.mk.sizeOf_spec] at h
   omega
  refine SCall.listed (fn := Go.Proofs.Tryd.f38) (by kernel_rfl) res38 (by kernel_rfl) (by kernel_rfl) (Nat.le_refl _) rfl (trivial) trivial ?_
  unfold rc38
  repeat (refine WR.seq ?_)
  refine WR.reg (WQ.runS [] 1000 _ _ _ _ rfl (WQ.nilS ?_))
  repeat (refine WR.seq ?_)
  refine WR.reg (WQ.runS [] 5 _ _ _ _ rfl ?_)
  rw [show decide ((k : Int) = (k : Int)) = true from decide_eq_true rfl]
  refine WQ.runS [] 7 _ _ _ _ rfl ?_
  rw [show decide (a = a) = true from decide_eq_true rfl]
  refine WQ.runS [] 7 _ _ _ _ rfl ?_
  rw [show decide (p = p) = true from decide_eq_true rfl]
  refine WQ.runS [] 7 _ _ _ _ rfl ?_
  rw [show decide (n = n) = true from decide_eq_true rfl]
  refine WQ.runS [] 9 _ _ _ _ rfl ?_
  rw [show decide (((encTxs args).length : Int) = ((encTxs args).length : Int)) = true from decide_eq_true rfl]
  refine WQ.runS [] 1000 _ _ _ _ rfl (WQ.nilS ?_)
  repeat (refine WR.seq ?_)
  refine WR.condF rfl (WR.skip ?_)
  repeat (refine WR.seq ?_)
  refine WR.reg (WQ.runS [] 1000 _ _ _ _ rfl (WQ.nilS ?_))
  repeat (refine WR.seq ?_)
  refine WR.block (WR.loop (s3_loop k a p n args (by omega) ih (fun tm => ?_) args.length 0 (by omega) _ ?_ _ ?_))
  ·unfold rc38_J2
   repeat (refine WR.seq ?_)
   refine WR.reg (WQ.runS [] 1000 _ _ _ _ rfl (WQ.nilS ?_))
   exact WR.ret ⟨rfl, rfl, ⟨_, rfl, VLe.refl _⟩, fun _ _ => rfl⟩
  ·repeat (first | exact .nil | refine .cons rfl (.inl rfl) ?_)
  ·repeat (first | exact .nil | refine .cons rfl (.v (VLe.refl _)) ?_ | refine .cons rfl (.l _ _ rfl) ?_)
end Go.VM
end
section
/- Statements: the document's comparing, of expressions and statements that are the same. -/
set_option maxRecDepth 100000
set_option linter.unusedVariables false
set_option linter.unusedSimpArgs false
namespace Go.VM
open Go.RowKit
def s4Tm (i : Nat) : TM := [(2, .l 2 0), (3, .l 3 0), (4, .v (.bool false)), (6, .v (.int .i64 i))]
theorem s4_loop {QN : S → Prop} {QX : X → S → Prop} (k : Nat) (a e : Int) (nm : List Nat) (nn : Int) (tk : Nat) (ta : Int) (tp tn : List Nat) (tl : List Tx) (args : List Ex) (hb : args.length < big)
  (ih : ∀ y ∈ args, SCall Go.Proofs.Tryd.prog [] 27 [.agg (encEx y), .agg (encEx y)] none ⟨1000, og [], []⟩ (.ret (.bool true)) none ⟨1000, og [], []⟩)
  (h0 : ∀ tm, QX (.exit 0) (SL.toS ⟨tm, [], none, 1000, [], [(3, encEx (.mk k a e nm nn (.mk tk ta tp tn tl) args)), (2, encEx (.mk k a e nm nn (.mk tk ta tp tn tl) args))]⟩)) : ∀ (m i : Nat), i + m = args.length → ∀ lc, TellL lc [(3, encEx (.mk k a e nm nn (.mk tk ta tp tn tl) args)), (2, encEx (.mk k a e nm nn (.mk tk ta tp tn tl) args))] → ∀ tm, TellT tm [(3, encEx (.mk k a e nm nn (.mk tk ta tp tn tl) args)), (2, encEx (.mk k a e nm nn (.mk tk ta tp tn tl) args))] (s4Tm i) →
  WLr Go.Proofs.Tryd.prog [] ⟨Go.Proofs.Tryd.f27.ntmps, none, 27⟩ rc27_L1 (SL.toS ⟨tm, [], none, 1000, [], lc⟩) QN QX := by
 intro m
 induction m with
 | zero =>
  intro i hi lc hlc tm htm
  refine WLr.weak (SW.tellR htm hlc) ?_
  unfold rc27_L1
  refine WLr.of ?_
  repeat (refine WR.seq ?_)
  refine WR.reg (WQ.runS [] 5 _ _ _ _ rfl ?_)
  rw [encExs_map, List.length_map, show decide ((i : Int) < (args.length : Int)) = false from decide_eq_false (by omega)]
  refine WQ.runS [] 1000 _ _ _ _ rfl (WQ.nilS ?_)
  repeat (refine WR.seq ?_)
  rw [← encExs_map]
  exact WR.condF rfl (WR.exit (h0 _))
 | succ m ihm =>
  intro i hi lc hlc tm htm
  obtain ⟨y, hy⟩ : ∃ y, args[i]? = some y := ⟨args[i], List.getElem?_eq_getElem (by omega)⟩
  have sc := ih y (List.mem_of_getElem? hy)
  obtain ⟨yk, ya, ye, yn, yv, ⟨ytk, yta, ytp, ytn, ytl⟩, ys⟩ := y
  refine WLr.weak (SW.tellR htm hlc) ?_
  unfold rc27_L1
  refine WLr.of ?_
  repeat (refine WR.seq ?_)
  refine WR.reg (WQ.runS [] 5 _ _ _ _ rfl ?_)
  rw [encExs_map, List.length_map, show decide ((i : Int) < (args.length : Int)) = true from decide_eq_true (by omega)]
  refine WQ.runS [] 1000 _ _ _ _ rfl (WQ.nilS ?_)
  rw [← encExs_map]
  repeat (refine WR.seq ?_)
  refine WR.condT rfl (WR.skip ?_)
  repeat (refine WR.seq ?_)
  refine WR.block ?_
  repeat (refine WR.seq ?_)
  refine WR.dreg hmix (DW.runS [] 3 _ _ _ _ _ _ rfl ?_)
  refine DW.pureS rfl (fun h => ia_at (cs := encEx (.mk yk ya ye yn yv (.mk ytk yta ytp ytn ytl) ys)) rfl rfl (by rw [encExs_map, List.getElem?_map, hy]; rfl) rfl) rfl ?_
  refine DW.runS [] 4 _ _ _ _ _ _ rfl ?_
  refine DW.pureS rfl (fun h => ia_at (cs := encEx (.mk yk ya ye yn yv (.mk ytk yta ytp ytn ytl) ys)) rfl rfl (by rw [encExs_map, List.getElem?_map, hy]; rfl) rfl) rfl ?_
  refine DW.runS [] 2 _ _ _ _ _ _ rfl ?_
  refine DW.callH (by repeat (first | exact .nil | refine PendR.passM rfl ?_ | refine PendR.sameM rfl ?_ | refine PendR.lightM rfl ?_)) rfl rfl rfl rfl rfl (SCall.relc sc _) .base rfl ?_
  refine DW.runS [] 1000 _ _ _ _ _ _ rfl (DW.finS (by repeat (first | exact .nil | refine PendR.passM rfl ?_ | refine PendR.sameM rfl ?_ | refine PendR.lightM rfl ?_)) ?_)
  repeat (refine WR.seq ?_)
  refine WR.reg (WQ.runS [] 1000 _ _ _ _ rfl (WQ.nilS ?_))
  repeat (refine WR.seq ?_)
  refine WR.condF rfl (WR.skip ?_)
  unfold rc27_J1
  repeat (refine WR.seq ?_)
  refine WR.reg (WQ.runS [] 2 _ _ _ _ rfl ?_)
  rw [nextB (by omega)]
  refine WQ.runS [] 1000 _ _ _ _ rfl (WQ.nilS ?_)
  refine WIr.again (ihm (i + 1) (by omega) _ ?_ _ ?_)
  ·repeat (first | exact .nil | refine .cons rfl (.inl rfl) ?_)
  ·repeat (first | exact .nil | refine .cons rfl (.v (VLe.refl _)) ?_ | refine .cons rfl (.l _ _ rfl) ?_)
theorem same4_sp (K : Nat) (hK : K < big) : ∀ (N : Nat) (x : Ex), SizeOf.sizeOf x < N → okX K x → SCall Go.Proofs.Tryd.prog [] 27 [.agg (encEx x), .agg (encEx x)] none ⟨1000, og [], []⟩ (.ret (.bool true)) none ⟨1000, og [], []⟩
 | 0, x, h, _ => by omega
 | N + 1, .mk k a e nm nn (.mk tk ta tp tn tl) args, h, ho => by
  obtain ⟨hT, hlen, hsub⟩ := ho
  have ih : ∀ y ∈ args, SCall Go.Proofs.Tryd.prog [] 27 [.agg (encEx y), .agg (encEx y)] none ⟨1000, og [], []⟩ (.ret (.bool true)) none ⟨1000, og [], []⟩ := by
   intro y hy
   refine same4_sp K hK N y ?_ (okXs_mem hsub hy)
   have := List.sizeOf_lt_of_mem hy
   simp only [Ex.mk.sizeOf_spec] at h
   omega
  have st := same3_sp K hK _ _ (Nat.lt_succ_self _) hT
  refine SCall.listed (fn := Go.Proofs.Tryd.f27) (by kernel_rfl) res27 (by kernel_rfl) (by kernel_rfl) (Nat.le_refl _) rfl (trivial) trivial ?_
  unfold rc27
  repeat (refine WR.seq ?_)
  refine WR.reg (WQ.runS [] 1000 _ _ _ _ rfl (WQ.nilS ?_))
  repeat (refine WR.seq ?_)
  refine WR.reg (WQ.runS [] 4 _ _ _ _ rfl ?_)
  refine WQ.callH rfl rfl rfl rfl rfl (SCall.relc st _) .base rfl ?_
  refine WQ.runS [] 1000 _ _ _ _ rfl (WQ.nilS ?_)
  repeat (refine WR.seq ?_)
  refine WR.reg (WQ.runS [] 7 _ _ _ _ rfl ?_)
  refine WQ.runS [] 1 _ _ _ _ rfl ?_
  rw [show decide ((k : Int) = (k : Int)) = true from decide_eq_true rfl]
  refine WQ.runS [] 7 _ _ _ _ rfl ?_
  rw [show decide (a = a) = true from decide_eq_true rfl]
  refine WQ.runS [] 7 _ _ _ _ rfl ?_
  rw [show decide (e = e) = true from decide_eq_true rfl]
  refine WQ.runS [] 7 _ _ _ _ rfl ?_
  rw [show decide (nm = nm) = true from decide_eq_true rfl]
  refine WQ.runS [] 7 _ _ _ _ rfl ?_
  rw [show decide (nn = nn) = true from decide_eq_true rfl]
  refine WQ.runS [] 9 _ _ _ _ rfl ?_
  rw [show decide (((encExs args).length : Int) = ((encExs args).length : Int)) = true from decide_eq_true rfl]
  refine WQ.runS [] 1000 _ _ _ _ rfl (WQ.nilS ?_)
  repeat (refine WR.seq ?_)
  refine WR.condF rfl (WR.skip ?_)
  repeat (refine WR.seq ?_)
  refine WR.reg (WQ.runS [] 1000 _ _ _ _ rfl (WQ.nilS ?_))
  repeat (refine WR.seq ?_)
  refine WR.block (WR.loop (s4_loop k a e nm nn tk ta tp tn tl args (by omega) ih (fun tm => ?_) args.length 0 (by omega) _ ?_ _ ?_))
  ·unfold rc27_J2
   repeat (refine WR.seq ?_)
   refine WR.reg (WQ.runS [] 1000 _ _ _ _ rfl (WQ.nilS ?_))
   exact WR.ret ⟨rfl, rfl, ⟨_, rfl, VLe.refl _⟩, fun _ _ => rfl⟩
  ·repeat (first | exact .nil | refine .cons rfl (.inl rfl) ?_)
  ·repeat (first | exact .nil | refine .cons rfl (.v (VLe.refl _)) ?_ | refine .cons rfl (.l _ _ rfl) ?_)
def slC (l : List Sx) : V := .lst (encSxs l) .unk
def s5Tm (l : List Sx) (i : Nat) : TM := [(0, .v (slC l)), (1, .v (slC l)), (4, .v (.bool false)), (5, .v (.int .i64 i))]
theorem s5_loop {QN : S → Prop} {QX : X → S → Prop} (K : Nat) (hK : K < big) (l : List Sx) (hb : l.length < big)
  (ih : ∀ y ∈ l, ∀ k a nm h x b e, y = .mk k a nm h x b e → okX K x ∧ SCall Go.Proofs.Tryd.prog [] 18 [slC b, slC b] none ⟨1000, og [], []⟩ (.ret (.bool true)) none ⟨1000, og [], []⟩ ∧ SCall Go.Proofs.Tryd.prog [] 18 [slC e, slC e] none ⟨1000, og [], []⟩ (.ret (.bool true)) none ⟨1000, og [], []⟩)
  (h0 : ∀ tm lc, QX (.exit 0) (SL.toS ⟨tm, [], none, 1000, [], lc⟩)) : ∀ (m i : Nat), i + m = l.length → ∀ lc tm, TellT tm [] (s5Tm l i) →
  WLr Go.Proofs.Tryd.prog [] ⟨Go.Proofs.Tryd.f18.ntmps, none, 18⟩ rc18_L1 (SL.toS ⟨tm, [], none, 1000, [], lc⟩) QN QX := by
 intro m
 induction m with
 | zero =>
  intro i hi lc tm htm
  refine WLr.weak (s := SL.toS ⟨s5Tm l i, [], none, 1000, [], []⟩) (SW.tellR htm .nil) ?_
  unfold rc18_L1
  refine WLr.of ?_
  repeat (refine WR.seq ?_)
  refine WR.reg (WQ.runS [] 3 _ _ _ _ rfl ?_)
  rw [encSxs_map, List.length_map]
  refine WQ.runS [] 1 _ _ _ _ rfl ?_
  rw [show decide ((i : Int) < (l.length : Int)) = false from decide_eq_false (by omega)]
  refine WQ.runS [] 1000 _ _ _ _ rfl (WQ.nilS ?_)
  repeat (refine WR.seq ?_)
  exact WR.condF rfl (WR.exit (h0 _ _))
 | succ m ihm =>
  intro i hi lc tm htm
  obtain ⟨y, hy⟩ : ∃ y, l[i]? = some y := ⟨l[i], List.getElem?_eq_getElem (by omega)⟩
  have sc := ih y (List.mem_of_getElem? hy)
  obtain ⟨yk, ya, yn, yh, ⟨xk, xa, xe, xn, xv, ⟨xtk, xta, xtp, xtn, xtl⟩, xs⟩, yb, ye⟩ := y
  obtain ⟨sx, sb, se⟩ := sc _ _ _ _ _ _ _ rfl
  have s4 := same4_sp K hK _ _ (Nat.lt_succ_self _) sx
  refine WLr.weak (s := SL.toS ⟨s5Tm l i, [], none, 1000, [], []⟩) (SW.tellR htm .nil) ?_
  unfold rc18_L1
  refine WLr.of ?_
  repeat (refine WR.seq ?_)
  refine WR.reg (WQ.runS [] 3 _ _ _ _ rfl ?_)
  rw [encSxs_map, List.length_map]
  refine WQ.runS [] 1 _ _ _ _ rfl ?_
  rw [show decide ((i : Int) < (l.length : Int)) = true from decide_eq_true (by omega)]
  refine WQ.runS [] 1000 _ _ _ _ rfl (WQ.nilS ?_)
  repeat (refine WR.seq ?_)
  refine WR.condT rfl (WR.skip ?_)
  repeat (refine WR.seq ?_)
  refine WR.block ?_
  repeat (refine WR.seq ?_)
  refine WR.reg (WQ.runS [] 2 _ _ _ _ rfl ?_)
  refine WQ.lightS rfl rfl rfl (ia_at (cs := encSx (.mk yk ya yn yh (.mk xk xa xe xn xv (.mk xtk xta xtp xtn xtl) xs) yb ye)) rfl rfl (by rw [encSxs_map, List.getElem?_map, hy]; rfl) rfl) rfl ?_
  refine WQ.runS [] 1000 _ _ _ _ rfl (WQ.nilS ?_)
  repeat (refine WR.seq ?_)
  refine WR.reg (WQ.runS [] 2 _ _ _ _ rfl ?_)
  refine WQ.lightS rfl rfl rfl (ia_at (cs := encSx (.mk yk ya yn yh (.mk xk xa xe xn xv (.mk xtk xta xtp xtn xtl) xs) yb ye)) rfl rfl (by rw [encSxs_map, List.getElem?_map, hy]; rfl) rfl) rfl ?_
  refine WQ.runS [] 1000 _ _ _ _ rfl (WQ.nilS ?_)
  repeat (refine WR.seq ?_)
  refine WR.reg (WQ.runS [] 5 _ _ _ _ rfl ?_)
  rw [show decide ((yk : Int) = (yk : Int)) = true from decide_eq_true rfl]
  refine WQ.runS [] 7 _ _ _ _ rfl ?_
  rw [show decide (ya = ya) = true from decide_eq_true rfl]
  refine WQ.runS [] 7 _ _ _ _ rfl ?_
  rw [show decide (yn = yn) = true from decide_eq_true rfl]
  refine WQ.runS [] 6 _ _ _ _ rfl ?_
  refine WQ.runS [] 1 _ _ _ _ rfl ?_
  rw [show (yh == yh) = true from by cases yh <;> rfl]
  refine WQ.runS [] 1000 _ _ _ _ rfl (WQ.nilS ?_)
  repeat (refine WR.seq ?_)
  refine WR.condF rfl (WR.skip ?_)
  repeat (refine WR.seq ?_)
  refine WR.reg (WQ.runS [] 4 _ _ _ _ rfl ?_)
  refine WQ.callH rfl rfl rfl rfl rfl (SCall.relc s4 _) .base rfl ?_
  refine WQ.runS [] 1000 _ _ _ _ rfl (WQ.nilS ?_)
  repeat (refine WR.seq ?_)
  refine WR.reg (WQ.runS [] 4 _ _ _ _ rfl ?_)
  refine WQ.callH rfl rfl rfl rfl rfl (SCall.relc sb _) .base rfl ?_
  refine WQ.runS [] 1000 _ _ _ _ rfl (WQ.nilS ?_)
  repeat (refine WR.seq ?_)
  refine WR.reg (WQ.runS [] 4 _ _ _ _ rfl ?_)
  refine WQ.callH rfl rfl rfl rfl rfl (SCall.relc se _) .base rfl ?_
  refine WQ.runS [] 1000 _ _ _ _ rfl (WQ.nilS ?_)
  repeat (refine WR.seq ?_)
  refine WR.reg (WQ.runS [] 1000 _ _ _ _ rfl (WQ.nilS ?_))
  repeat (refine WR.seq ?_)
  refine WR.condF rfl (WR.skip ?_)
  unfold rc18_J1
  repeat (refine WR.seq ?_)
  refine WR.reg (WQ.runS [] 2 _ _ _ _ rfl ?_)
  rw [nextB (by omega)]
  refine WQ.runS [] 1000 _ _ _ _ rfl (WQ.nilS ?_)
  refine WIr.again (ihm (i + 1) (by omega) _ _ ?_)
  repeat (first | exact .nil | refine .cons rfl (.v (VLe.refl _)) ?_ | refine .cons rfl (.l _ _ rfl) ?_)
theorem same5_sp (K : Nat) (hK : K < big) : ∀ (N : Nat) (l : List Sx), SizeOf.sizeOf l < N → okSs K l → l.length ≤ K → SCall Go.Proofs.Tryd.prog [] 18 [slC l, slC l] none ⟨1000, og [], []⟩ (.ret (.bool true)) none ⟨1000, og [], []⟩
 | 0, x, h, _, _ => by omega
 | N + 1, l, h, ho, hlen => by
  have ih : ∀ y ∈ l, ∀ k a nm h x b e, y = .mk k a nm h x b e → okX K x ∧ SCall Go.Proofs.Tryd.prog [] 18 [slC b, slC b] none ⟨1000, og [], []⟩ (.ret (.bool true)) none ⟨1000, og [], []⟩ ∧ SCall Go.Proofs.Tryd.prog [] 18 [slC e, slC e] none ⟨1000, og [], []⟩ (.ret (.bool true)) none ⟨1000, og [], []⟩ := by
   intro y hy k a nm hh x b e he
   have hm := okSs_mem ho hy
   have hsz := List.sizeOf_lt_of_mem hy
   subst he
   obtain ⟨q1, q2, q3⟩ := hm
   simp only [Sx.mk.sizeOf_spec] at hsz
   exact ⟨q1, same5_sp K hK N b (by omega) q2.2 q2.1, same5_sp K hK N e (by omega) q3.2 q3.1⟩
  refine SCall.listed (fn := Go.Proofs.Tryd.f18) (by kernel_rfl) res18 (by kernel_rfl) (by kernel_rfl) (Nat.le_refl _) rfl (trivial) trivial ?_
  unfold rc18
  unfold slC
  repeat (refine WR.seq ?_)
  refine WR.reg (WQ.runS [] 1000 _ _ _ _ rfl (WQ.nilS ?_))
  repeat (refine WR.seq ?_)
  refine WR.reg (WQ.runS [] 4 _ _ _ _ rfl ?_)
  refine WQ.runS [] 1 _ _ _ _ rfl ?_
  rw [show decide (((encSxs l).length : Int) = ((encSxs l).length : Int)) = true from decide_eq_true rfl]
  refine WQ.runS [] 1000 _ _ _ _ rfl (WQ.nilS ?_)
  repeat (refine WR.seq ?_)
  refine WR.condF rfl (WR.skip ?_)
  repeat (refine WR.seq ?_)
  refine WR.reg (WQ.runS [] 1000 _ _ _ _ rfl (WQ.nilS ?_))
  repeat (refine WR.seq ?_)
  refine WR.block (WR.loop (s5_loop K hK l (by omega) ih (fun tm lc => ?_) l.length 0 (by omega) _ _ ?_))
  ·unfold rc18_J2
   repeat (refine WR.seq ?_)
   refine WR.reg (WQ.runS [] 1000 _ _ _ _ rfl (WQ.nilS ?_))
   exact WR.ret ⟨rfl, rfl, ⟨_, rfl, VLe.refl _⟩, fun _ _ => rfl⟩
  ·repeat (first | exact .nil | refine .cons rfl (.v (VLe.refl _)) ?_ | refine .cons rfl (.l _ _ rfl) ?_)
end Go.VM
end
section
/- Statements: what stands behind a block. -/
set_option maxRecDepth 100000
set_option linter.unusedVariables false
set_option linter.unusedSimpArgs false
namespace Go.VM
open Go.RowKit
mutual
theorem shT_0 : ∀ x : Tx, shT 0 x = x
 | .mk k a p n l => by simp only [shT, Int.add_zero, shTs_0 l]
theorem shTs_0 : ∀ l : List Tx, shTs 0 l = l
 | [] => rfl
 | x :: l => by simp only [shTs, shT_0 x, shTs_0 l]
end
mutual
theorem shX_0 : ∀ x : Ex, shX 0 x = x
 | .mk k a e nm n t args => by
  simp only [shX, Int.add_zero, shXs_0 args]
  cases Nat.beq k 8 <;> simp only [shT_0]
theorem shXs_0 : ∀ l : List Ex, shXs 0 l = l
 | [] => rfl
 | x :: l => by simp only [shXs, shX_0 x, shXs_0 l]
end
mutual
theorem shSx_0 : ∀ x : Sx, shSx 0 x = x
 | .mk k a nm h x b e => by
  simp only [shSx, Int.add_zero, shSxs_0 b, shSxs_0 e]
  cases Nat.beq k 3 && !h <;> simp only [shX_0]
theorem shSxs_0 : ∀ l : List Sx, shSxs 0 l = l
 | [] => rfl
 | x :: l => by simp only [shSxs, shSx_0 x, shSxs_0 l]
end
noncomputable def PL (l : List Tz) (a : Nat) : R Ex := open Classical in if h : a ≤ l.length then Classical.choose (Classical.choose_spec (expr_ends l a 1 0 h)) else .out
theorem PL_spec (l : List Tz) {a : Nat} (h : a ≤ l.length) : (PL l a).isOut = false ∧ ∃ N, ∀ n, N ≤ n → (fns l n).expr 1 a 0 = PL l a := by
 have h2 := Classical.choose_spec (Classical.choose_spec (expr_ends l a 1 0 h))
 unfold PL
 rw [dif_pos h]
 exact ⟨h2.1, _, h2.2⟩
theorem PL_ok (l : List Tz) (hl : l.length < 19999) (hT : ∀ t ∈ l, t.t.length < big) : ParseOk l (PL l) := by
 refine ⟨fun a ha h => ?_, fun a ha => (PL_spec l ha).1, fun a x n ha e => ?_, fun a a1 d p c e => ?_⟩
 ·obtain ⟨h1, N, h2⟩ := PL_spec l ha
  have h2 := h2 N (Nat.le_refl _)
  have := SCall.pure0 rfl (parse_core l hl hT a N ha (by rw [h2]; exact h1)) (by exact ⟨lsV_in l, trivial, trivial⟩) (by exact exV_in _) h
  rw [h2] at this
  exact this
 ·obtain ⟨h1, N, h2⟩ := PL_spec l ha
  have h2 := h2 N (Nat.le_refl _)
  rw [e] at h2
  exact ⟨(fns_prog l N).expr 1 a 0 x n h2, ((fns_fwd l N).expr 1 a 0 x n h2).2 ha⟩
 ·by_cases ha : a ≤ l.length
  ·obtain ⟨h1, N, h2⟩ := PL_spec l ha
   have h2 := h2 N (Nat.le_refl _)
   rw [e] at h2
   exact (fns_errc N).expr 1 a 0 a1 d p c h2
  ·unfold PL at e
   rw [dif_neg ha] at e
   cases e
theorem PL_bd (l : List Tz) : ∀ a x n, PL l a = .ok x n → okX (l.length + 2) x := by
 intro a x n e
 by_cases ha : a ≤ l.length
 ·obtain ⟨h1, N, h2⟩ := PL_spec l ha
  have h2 := h2 N (Nat.le_refl _)
  rw [e] at h2
  exact (fns_bd l N).expr 1 a 0 x n h2
 ·unfold PL at e
  rw [dif_neg ha] at e
  cases e
section
variable {lo n k : Nat} {b : Int} {l l' : List Tz} {P P' : Nat → R Ex}
theorem loop_end (t : TokS lo n k b l l' P P') (hP : ParseOk l P) (hn : n < l.length) (hz : nowF l' (n + k) = shZ b (nowF l n)) : ∀ m d acc s v s', lo ≤ s.a → s.a ≤ l.length → (sfns l P m).loop d acc s = some (v, s') → s'.c = 0 → s'.a = n + 1 → (sfns l' P' m).loop d (shSxs b acc) (shS k s) = some (shSxs b v, shS k s') := by
 intro m
 induction m with
 | zero => intro d acc s v s' _ _ e; cases e
 | succ m ih =>
  intro d acc s v s' h0 hs e hc ha
  have iv := sfns_inv hP m
  have stp := (sfns_inv hP (m + 1)).loop d acc s v s' hs e
  have hlt := stp.lt hc
  have e : sLoop l (sfns l P m) d acc s = some (v, s') := e
  show sLoop l' (sfns l' P' m) d (shSxs b acc) (shS k s) = _
  have c0 := loop_c iv hs e hc
  have his : isS l' (shS k s) 4 [125] = isS l s 4 [125] := by
   rcases Nat.eq_or_lt_of_le (show s.a ≤ n by omega) with q | q
   ·unfold isS isF
    show (fineS s && (decide ((nowF l' (s.a + k)).k = 4) && decide ((nowF l' (s.a + k)).t = [125]))) = _
    rw [q, hz]
    rfl
   ·exact t.is h0 q 4 [125]
  unfold sLoop at e ⊢
  rw [show fineS (shS k s) = fineS s from rfl, his]
  rw [fineS_c.2 c0] at e ⊢
  simp only at e ⊢
  cases h1 : isS l s 4 [125] with
  | true => rw [h1] at e; cases e; simp only; rw [shS_next]
  | false =>
   rw [h1] at e
   simp only at e ⊢
   cases h2 : (sfns l P m).stmt d s with
   | none => simp only [h2] at e; cases e
   | some q =>
    obtain ⟨x, s1⟩ := q
    simp only [h2] at e
    have m1 := iv.stmt _ _ _ _ hs h2
    have m2 := iv.loop _ _ _ _ _ m1.len e
    have c1 := m2.fine hc
    have := m2.lt hc
    rw [(sfns_sim t hP (by omega) m).stmt d s h0 hs x s1 h2 c1 (by omega)]
    simp only
    have := ih d (acc ++ [x]) s1 v s' (by have := m1.le; omega) m1.len e hc ha
    rw [shSxs_app] at this
    exact this
end
theorem behind_law (l more : List Tz) (hl : l.length < 19999) (hT : ∀ t ∈ l, t.t.length < big) {m : Nat} {v : List Sx} {s' : Sr} (e : (sfns l (PL l) m).block 0 ⟨0, 0, 0⟩ = some (v, s')) (hc : s'.c = 0) :
  2 ≤ s'.a ∧ s'.a ≤ l.length ∧ (okSs (l.length + 2) v ∧ v.length ≤ l.length) ∧ ∃ m2, (sfns (l.take s'.a ++ more) (PL (l.take s'.a ++ more)) m2).block 0 ⟨0, 0, 0⟩ = some (v, s') := by
 have hP := PL_ok l hl hT
 have stp := (sfns_inv hP m).block 0 _ _ _ (Nat.zero_le _) e
 have bd := (sfns_bd hP (PL_bd l) m).block 0 _ _ _ (Nat.zero_le _) e hc
 cases m with
 | zero => cases e
 | succ m =>
 have e2 : sBlock l (sfns l (PL l) m) 0 ⟨0, 0, 0⟩ = some (v, s') := e
 unfold sBlock at e2
 rw [show deepB l 0 ⟨0, 0, 0⟩ = false from rfl] at e2
 simp only at e2
 have ms := must_stp (l := l) (s := ⟨0, 0, 0⟩) (Nat.zero_le _) (x := [123])
 have lp := (sfns_inv hP m).loop _ _ _ _ _ ms.len e2
 have c1 := lp.fine hc
 obtain ⟨q1, q2, q3⟩ := must_fine c1
 rw [q2] at e2 lp
 have h2 : 1 < s'.a := lp.lt hc
 have hle := stp.len
 refine ⟨h2, hle, bd, ?_⟩
 obtain ⟨n, hn⟩ : ∃ n, s'.a = n + 1 := ⟨s'.a - 1, by omega⟩
 obtain ⟨l', hl'⟩ : ∃ l', l' = l.take s'.a ++ more := ⟨_, rfl⟩
 rw [← hl']
 have hnow : ∀ i, i < s'.a → nowF l' i = nowF l i := by
  intro i hi
  have h1 : l[i]? = some l[i] := List.getElem?_eq_getElem (by omega)
  have h2 : l'[i]? = some l[i] := by rw [hl', List.getElem?_append_left (by rw [List.length_take]; omega), List.getElem?_take_of_lt hi, h1]
  rw [nowF_some h1, nowF_some h2]
 have sh0 : ∀ t : Tz, shZ 0 t = t := fun t => by simp [shZ]
 have hlast : isF l n 4 [125] = true := by
  have go : ∀ m d acc s v2 s2, s.a ≤ l.length → (sfns l (PL l) m).loop d acc s = some (v2, s2) → s2.c = 0 → isF l (s2.a - 1) 4 [125] = true := by
   intro m
   induction m with
   | zero => intro d acc s v2 s2 _ e; cases e
   | succ m ih =>
    intro d acc s v2 s2 hs e hc2
    have e : sLoop l (sfns l (PL l) m) d acc s = some (v2, s2) := e
    have c0 := loop_c (sfns_inv hP m) hs e hc2
    unfold sLoop at e
    rw [fineS_c.2 c0] at e
    simp only at e
    cases h1 : isS l s 4 [125] with
    | true =>
     rw [h1] at e
     cases e
     exact (isS_t h1).2
    | false =>
     rw [h1] at e
     simp only at e
     cases h2 : (sfns l (PL l) m).stmt d s with
     | none => simp only [h2] at e; cases e
     | some q =>
      obtain ⟨x, s1⟩ := q
      simp only [h2] at e
      exact ih d _ s1 v2 s2 ((sfns_inv hP m).stmt _ _ _ _ hs h2).len e hc2
  have := go m 1 [] _ v s' (by show 1 ≤ l.length; omega) e2 hc
  rw [hn] at this
  exact this
 have t : TokS 0 n 0 0 l l' (PL l) (PL l') := by
  refine ⟨fun i _ hi => by rw [sh0, Nat.add_zero]; exact hnow i (by omega), ?_, fun a x a' _ e1 ha' hst => ?_⟩
  ·unfold isF at hlast ⊢
   rw [Nat.add_zero, hnow n (by omega)]
   simp only [Bool.and_eq_true, decide_eq_true_eq] at hlast
   rw [hlast.1]
   rfl
  ·have ha : a ≤ l.length := by
    rcases Nat.lt_or_ge l.length a with h | h
    ·unfold PL at e1
     rw [dif_neg (by omega)] at e1
     cases e1
    ·exact h
   obtain ⟨_, N, hN⟩ := PL_spec l ha
   have hlen' : a ≤ l'.length := by
    have := (hP.ok a x a' ha e1).1
    rw [hl', List.length_append, List.length_take]
    omega
   obtain ⟨_, N', hN'⟩ := PL_spec l' hlen'
   have sm : Same a' 0 0 l l' := ⟨fun i hi => by rw [sh0, Nat.add_zero]; exact hnow i (by omega), by rw [Nat.add_zero, hnow a' (by omega)]; exact hst⟩
   have f := (fns_sim (dd := 0) sm (max N N')).expr 1 a 0 (Nat.le_refl _) x a' (by rw [hN _ (by omega)]; exact e1) (Nat.le_refl _)
   rcases f with f | ⟨f, _⟩
   ·rw [Nat.add_zero, ← hN' (max N N') (by omega)]
    exact f
   ·omega
 refine ⟨m + 1, ?_⟩
 show sBlock l' (sfns l' (PL l') m) 0 ⟨0, 0, 0⟩ = _
 unfold sBlock
 rw [show deepB l' 0 ⟨0, 0, 0⟩ = false from rfl]
 simp only
 have hm : mustS l' ⟨0, 0, 0⟩ [123] = nextS ⟨0, 0, 0⟩ := by
  unfold mustS isS isF at *
  rw [hnow 0 (by omega)]
  rw [q1]
 rw [hm]
 have := loop_end t hP (by omega) (by rw [sh0, Nat.add_zero]; exact hnow n (by omega)) m 1 [] (nextS ⟨0, 0, 0⟩) v s' (Nat.zero_le _) (by show 1 ≤ l.length; omega) e2 hc hn
 rw [shSxs_0, shSxs_0] at this
 exact this
end Go.VM
end
section
/- Statements: what stands behind a block: the law, walked. -/
set_option maxRecDepth 100000
set_option linter.unusedVariables false
set_option linter.unusedSimpArgs false
namespace Go.VM
open Go.RowKit
theorem og_low1 {o o2 : Obj} (b : Nat) (h : b < 1000) : og [(0, o)] b = og [(0, o), (1000, o2)] b := by
 simp only [og_cons]
 split
 ·rfl
 ·rw [if_neg (by omega)]
theorem behind_core (l more : List Tz) (hT : ∀ t ∈ l, t.t.length < big) (hT2 : ∀ t ∈ more, t.t.length < big) :
  SCall Go.Proofs.Tryd.prog [0] 8 [lsV l, lsV more] none ⟨1000, og tOl, []⟩ (.ret (.bool true)) none ⟨1000, og tOl, []⟩ := by
 refine SCall.listed (fn := Go.Proofs.Tryd.f8) (by kernel_rfl) res8 (by kernel_rfl) (by kernel_rfl) (Nat.le_refl _) rfl ((by exact ⟨tabS_in, trivial⟩)) trivial ?_
 unfold rc8
 repeat (refine WR.seq ?_)
 refine WR.reg (WQ.runS [] 1000 _ _ _ _ rfl (WQ.nilS ?_))
 repeat (refine WR.seq ?_)
 refine WR.reg (WQ.callH rfl rfl rfl rfl rfl awakeS_sp .base rfl ?_)
 refine WQ.runS [] 1000 _ _ _ _ rfl (WQ.nilS ?_)
 repeat (refine WR.seq ?_)
 refine WR.reg (WQ.runS [] 2 _ _ _ _ rfl ?_)
 rw [List.length_map]
 refine WQ.runS [] 1 _ _ _ _ rfl ?_
 by_cases h1 : l.length > 4100
 ·rw [show decide ((l.length : Int) > 4100) = true from decide_eq_true (by omega)]
  refine WQ.runS [] 1000 _ _ _ _ rfl (WQ.nilS ?_)
  repeat (refine WR.seq ?_)
  refine WR.condT rfl ?_
  repeat (refine WR.seq ?_)
  refine WR.reg (WQ.runS [] 1000 _ _ _ _ rfl (WQ.nilS ?_))
  exact WR.ret ⟨rfl, rfl, ⟨_, rfl, VLe.refl _⟩, fun _ _ => rfl⟩
 rw [show decide ((l.length : Int) > 4100) = false from decide_eq_false (by omega)]
 refine WQ.runS [] 3 _ _ _ _ rfl ?_
 rw [List.length_map]
 refine WQ.runS [] 1 _ _ _ _ rfl ?_
 by_cases h2 : more.length > 4100
 ·rw [show decide ((more.length : Int) > 4100) = true from decide_eq_true (by omega)]
  refine WQ.runS [] 1000 _ _ _ _ rfl (WQ.nilS ?_)
  repeat (refine WR.seq ?_)
  refine WR.condT rfl ?_
  repeat (refine WR.seq ?_)
  refine WR.reg (WQ.runS [] 1000 _ _ _ _ rfl (WQ.nilS ?_))
  exact WR.ret ⟨rfl, rfl, ⟨_, rfl, VLe.refl _⟩, fun _ _ => rfl⟩
 rw [show decide ((more.length : Int) > 4100) = false from decide_eq_false (by omega)]
 refine WQ.runS [] 1000 _ _ _ _ rfl (WQ.nilS ?_)
 repeat (refine WR.seq ?_)
 refine WR.condF rfl (WR.skip ?_)
 have hP := PL_ok l (by omega) hT
 obtain ⟨N, ⟨v, s'⟩, hN⟩ := block_ends hP 0 (Nat.zero_le _)
 have e := hN N (Nat.le_refl _)
 have sp := sparse_sp hP (by omega) N 0 (Nat.zero_le _) e
 cases hf : fineS s' with
 | false =>
  have hc : ¬ s'.c = 0 := of_decide_eq_false hf
  have ev : stV (v, s') = .tup [.lst [] (.ex 0), .int .i64 0, .agg (dgX s'.p s'.c)] := by unfold stV; rw [hf]
  rw [ev] at sp
  repeat (refine WR.seq ?_)
  refine WR.reg (WQ.runS [] 1 _ _ _ _ rfl ?_)
  refine WQ.callH rfl rfl rfl rfl rfl (sp _) .base rfl ?_
  refine WQ.runS [] 1000 _ _ _ _ rfl (WQ.nilS ?_)
  repeat (refine WR.seq ?_)
  refine WR.reg (WQ.runS [] 2 _ _ _ _ rfl ?_)
  refine WQ.runS [] 1 _ _ _ _ rfl ?_
  rw [show decide (s'.c = 0) = false from decide_eq_false hc]
  refine WQ.runS [] 1000 _ _ _ _ rfl (WQ.nilS ?_)
  repeat (refine WR.seq ?_)
  refine WR.condT rfl ?_
  repeat (refine WR.seq ?_)
  refine WR.reg (WQ.runS [] 1000 _ _ _ _ rfl (WQ.nilS ?_))
  exact WR.ret ⟨rfl, rfl, ⟨_, rfl, VLe.refl _⟩, fun _ _ => rfl⟩
 | true =>
  have hc : s'.c = 0 := of_decide_eq_true hf
  obtain ⟨h2a, hle, ⟨ok, hvl⟩, m2, e2⟩ := behind_law l more (by omega) hT e hc
  have ev : stV (v, s') = .tup [slC v, .int .i64 s'.a, .agg (dgX 0 0)] := by unfold stV slC; rw [hf]
  have hT' : ∀ t ∈ l.take s'.a ++ more, t.t.length < big := by
   intro t ht
   rcases List.mem_append.1 ht with h | h
   ·exact hT t (List.mem_of_mem_take h)
   ·exact hT2 t h
  have hP' := PL_ok (l.take s'.a ++ more) (by rw [List.length_append, List.length_take]; omega) hT'
  have sp2 := sparse_sp hP' (by rw [List.length_append, List.length_take]; omega) m2 0 (Nat.zero_le _) e2
  have sm := same5_sp (l.length + 2) (by unfold big; omega) _ v (Nat.lt_succ_self _) ok (by omega)
  rw [ev] at sp sp2
  generalize s'.a = n at *
  repeat (refine WR.seq ?_)
  refine WR.reg (WQ.runS [] 1 _ _ _ _ rfl ?_)
  refine WQ.callH rfl rfl rfl rfl rfl (sp _) .base rfl ?_
  refine WQ.runS [] 1000 _ _ _ _ rfl (WQ.nilS ?_)
  repeat (refine WR.seq ?_)
  refine WR.reg (WQ.runS [] 1000 _ _ _ _ rfl (WQ.nilS ?_))
  repeat (refine WR.seq ?_)
  refine WR.condF rfl (WR.skip ?_)
  repeat (refine WR.seq ?_)
  refine WR.reg (WQ.runS [] 2 _ _ _ _ rfl ?_)
  rw [show decide ((n : Int) < 2) = false from decide_eq_false (by omega)]
  refine WQ.runS [] 4 _ _ _ _ rfl ?_
  rw [List.length_map]
  refine WQ.runS [] 1 _ _ _ _ rfl ?_
  rw [show decide ((n : Int) > (l.length : Int)) = false from decide_eq_false (by omega)]
  refine WQ.runS [] 1000 _ _ _ _ rfl (WQ.nilS ?_)
  repeat (refine WR.seq ?_)
  refine WR.condF rfl (WR.skip ?_)
  repeat (refine WR.seq ?_)
  refine WR.reg (WQ.runS [] 3 _ _ _ _ rfl ?_)
  refine WQ.lightS rfl rfl rfl (slc_take (es := l.map encTz) rfl rfl (by rw [List.length_map]; exact hle)) rfl ?_
  have hes : ∀ q : List Tz, ∀ e ∈ q.map encTz, e.length = 4 := by
   intro q e he
   obtain ⟨y, _, rfl⟩ := List.mem_map.1 he
   rfl
  have hcl : ∀ q : List Tz, (q.map encTz).map (·.map V.clean1) = q.map encTz := by
   intro q
   rw [List.map_map]; rfl
  refine WQ.doesS rfl (app_exR (n2 := n) (es2 := (l.take n).map encTz) (fs2 := (l.take n).map encTz) rfl rfl ?_ (by simp) ?_ ?_ ?_ rfl ?_ rfl) rfl ?_
  ·rw [List.length_take, List.length_map]; show 0 < 0 + _; omega
  ·rw [← List.map_take]; exact hes _
  ·rw [List.length_take, List.length_map]; show 40 * (0 + _) ≤ lim; unfold lim; omega
  ·rw [← List.map_take]; exact hcl _
  ·rw [List.length_take, List.length_map]; show n = 0 + _; omega
  refine WQ.runS [] 1 _ _ _ _ rfl ?_
  refine WQ.doesS rfl (app_tkR (n := n) (n2 := n + more.length) (es2 := (l.take n ++ more).map encTz) (fs2 := more.map encTz) rfl rfl rfl ?_ ?_ ?_ ?_ ?_ ?_ ?_ rfl) rfl ?_
  ·rw [List.length_map, List.length_take]; omega
  ·exact hes _
  ·exact hes _
  ·rw [List.length_map, List.length_map, List.length_take]; unfold lim; omega
  ·exact hcl _
  ·rw [List.map_append]
  ·rw [List.length_map, List.length_map, List.length_take]; omega
  refine WQ.callH rfl rfl rfl rfl rfl (SCall.args (sp2 _) (fun E xs h => VLL.ars (.cons (VLe.unk _ _) (.cons (VLe.refl _) .nil)) h)) .base rfl ?_
  refine WQ.runS [] 1000 _ _ _ _ rfl (WQ.nilS ?_)
  repeat (refine WR.seq ?_)
  refine WR.reg (WQ.runS [] 2 _ _ _ _ rfl ?_)
  refine WQ.callH rfl rfl rfl rfl rfl (SCall.more (SCall.pure0 rfl sm (by exact ⟨⟨encSxs_in _, trivial⟩, ⟨encSxs_in _, trivial⟩, trivial⟩) trivial _)) .base rfl ?_
  refine WQ.runS [] 1000 _ _ _ _ rfl (WQ.nilS ?_)
  repeat (refine WR.seq ?_)
  refine WR.reg (WQ.runS [] 7 _ _ _ _ rfl ?_)
  refine WQ.runS [] 1 _ _ _ _ rfl ?_
  rw [show decide ((n : Int) = (n : Int)) = true from decide_eq_true rfl]
  refine WQ.runS [] 1000 _ _ _ _ rfl (WQ.nilS ?_)
  exact WR.ret ⟨rfl, rfl, ⟨_, rfl, VLe.refl _⟩, fun b hb => og_low1 b hb⟩
theorem behind_spec (l more : List Tz) (hT : ∀ t ∈ l, t.t.length < big) (hT2 : ∀ t ∈ more, t.t.length < big) :
  SCall Go.Proofs.Tryd.prog [0] 8 [lsV l, lsV more] none (Go.VM.hT 0 .u8 spaces) (.ret (.bool true)) none (Go.VM.hT 0 .u8 spaces) := behind_core l more hT hT2
end Go.VM
end
