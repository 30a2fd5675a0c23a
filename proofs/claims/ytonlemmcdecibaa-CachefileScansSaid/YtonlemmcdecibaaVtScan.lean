/- laid for this seat: VtScan -/
import Derived.Test.YtonlemmcdecibaaRcCache
import Derived.Test.YtonlemmcdecibaaVmR
/- The cache's file: what a reader takes. -/
set_option maxRecDepth 100000
set_option linter.unusedVariables false
set_option linter.unusedSimpArgs false
namespace Go.VM
open Go.RowKit
theorem hmix : Go.Proofs.Try.prog.follows .mixedOrders = true := by kernel_rfl
def rdV (b : List Nat) (a : Nat) (w : Bool) : List V := [.str b, .int .i64 a, .bool w]
def rol (b : List Nat) (a : Nat) (w : Bool) : OL := [(1000, .cells false (rdV b a w))]
theorem rol_in {D : Nat → Prop} (b : List Nat) (a : Nat) (w : Bool) : olIn D (rol b a w) := ⟨⟨trivial, trivial, trivial, trivial⟩, trivial⟩
def takeF (b : List Nat) (a : Nat) (w : Bool) (n : Nat) : List Nat × Nat × Bool := if w = true ∧ n ≤ b.length - a then ((b.drop a).take n, a + n, true) else ([], a, false)
theorem take_core (b : List Nat) (a n : Nat) (w : Bool) (hb : b.length ≤ 4000) (ha : a ≤ b.length) (hn : n ≤ 4294967295) :
  SCall Go.Proofs.Try.prog [] 62 [.ptr 1000 0, .int .i64 n] none ⟨1001, og (rol b a w), []⟩ (.ret (.str (takeF b a w n).1)) none ⟨1001, og (rol b (takeF b a w n).2.1 (takeF b a w n).2.2), []⟩ := by
 refine SCall.listed (fn := Go.Proofs.Try.f62) (by kernel_rfl) res62 (by kernel_rfl) (by kernel_rfl) (Nat.le_refl _) rfl (rol_in _ _ _) trivial ?_
 unfold rc62
 cases w with
 | false =>
  rw [show takeF b a false n = ([], a, false) from by simp [takeF]]
  repeat (first | refine WR.seq ?_ | refine WR.block ?_ | refine WR.scope ?_ | refine WR.skip ?_ | refine WR.exit ?_ | refine WR.condT rfl ?_ | refine WR.condF rfl ?_ | refine WR.reg (WQ.runS [] 1000 _ _ _ _ rfl ?_) | refine WQ.nilS ?_ | refine WR.dreg hmix (DW.runS [] 1000 _ _ _ _ _ _ rfl ?_))
  refine DW.finS (by repeat (first | exact .nil | refine PendR.passM rfl ?_ | refine PendR.sameM rfl ?_ | refine PendR.lightM rfl ?_)) ?_
  repeat (first | refine WR.seq ?_ | refine WR.block ?_ | refine WR.scope ?_ | refine WR.skip ?_ | refine WR.exit ?_ | refine WR.condT rfl ?_ | refine WR.condF rfl ?_ | refine WR.reg (WQ.runS [] 1000 _ _ _ _ rfl ?_) | refine WQ.nilS ?_ | refine WR.dreg hmix (DW.runS [] 1000 _ _ _ _ _ _ rfl ?_))
  refine WR.ret ⟨rfl, rfl, ⟨_, rfl, VLe.refl _⟩, fun b _ => rfl⟩
 | true =>
  repeat (first | refine WR.seq ?_ | refine WR.block ?_ | refine WR.scope ?_ | refine WR.skip ?_ | refine WR.exit ?_ | refine WR.condT rfl ?_ | refine WR.condF rfl ?_ | refine WR.reg (WQ.runS [] 1000 _ _ _ _ rfl ?_) | refine WQ.nilS ?_ | refine WR.dreg hmix (DW.runS [] 1000 _ _ _ _ _ _ rfl ?_))
  refine DW.finS (by repeat (first | exact .nil | refine PendR.passM rfl ?_ | refine PendR.sameM rfl ?_ | refine PendR.lightM rfl ?_)) ?_
  refine WR.cond rfl (fun h1 => ?_) (fun h1 => ?_)
  ·have h1 := of_decide_eq_true h1
   rw [wrap64 (by omega) (by omega)] at h1
   rw [show takeF b a true n = ([], a, false) from by simp [takeF]; omega]
   repeat (first | refine WR.seq ?_ | refine WR.block ?_ | refine WR.scope ?_ | refine WR.skip ?_ | refine WR.exit ?_ | refine WR.condT rfl ?_ | refine WR.condF rfl ?_ | refine WR.reg (WQ.runS [] 1000 _ _ _ _ rfl ?_) | refine WQ.nilS ?_ | refine WR.dreg hmix (DW.runS [] 1000 _ _ _ _ _ _ rfl ?_))
   refine WR.ret ⟨rfl, rfl, ⟨_, rfl, VLe.refl _⟩, fun b _ => rfl⟩
  ·have h1 := of_decide_eq_false h1
   rw [wrap64 (by omega) (by omega)] at h1
   rw [show takeF b a true n = ((b.drop a).take n, a + n, true) from by simp [takeF]; omega]
   repeat (first | refine WR.seq ?_ | refine WR.block ?_ | refine WR.scope ?_ | refine WR.skip ?_ | refine WR.exit ?_ | refine WR.condT rfl ?_ | refine WR.condF rfl ?_ | refine WR.reg (WQ.runS [] 1000 _ _ _ _ rfl ?_) | refine WQ.nilS ?_ | refine WR.dreg hmix (DW.runS [] 1000 _ _ _ _ _ _ rfl ?_))
   rw [show IntKind.i64.wrap ((a : Int) + n) = ((a + n : Nat) : Int) from by rw [wrap64 (by omega) (by omega)]; simp]
   refine WR.dreg hmix (DW.runS [] 14 _ _ _ _ _ _ rfl ?_)
   rw [show IntKind.i64.wrap (((a + n : Nat) : Int) - n) = (a : Int) from by rw [wrap64 (by omega) (by omega)]; omega]
   refine DW.pureS rfl (fun h => slc_str rfl rfl rfl (by omega) (by omega)) rfl (DW.runS [] 1000 _ _ _ _ _ _ rfl ?_)
   rw [show a + n - a = n from by omega]
   refine DW.finS (by repeat (first | exact .nil | refine PendR.passM rfl ?_ | refine PendR.sameM rfl ?_ | refine PendR.lightM rfl ?_)) ?_
   refine WR.ret ⟨rfl, rfl, ⟨_, rfl, VLe.refl _⟩, fun b _ => rfl⟩
theorem takeF_len (b : List Nat) (a n : Nat) (w : Bool) (ha : a ≤ b.length) : (takeF b a w n).2.1 ≤ b.length ∧ a ≤ (takeF b a w n).2.1 ∧ ((takeF b a w n).1 = [] ∨ (takeF b a w n).1.length = n) ∧ (takeF b a w n).1.length ≤ b.length := by
 unfold takeF
 split
 ·rename_i h
  simp only [List.length_take, List.length_drop]
  omega
 ·simp only [List.length_nil]; simp; omega
def be (l : List Nat) : Nat := l.foldl (fun n c => n * 256 + c) 0
def numF (b : List Nat) (a : Nat) (w : Bool) : Nat × Nat × Bool :=
 let t := takeF b a w 4
 (be t.1, t.2.1, t.2.2 && decide (be t.1 ≤ 2147483647))
theorem be_lt : ∀ (l : List Nat), (∀ x ∈ l, x < 256) → be l < 256 ^ l.length := by
 intro l
 have key : ∀ (l : List Nat) (n k : Nat), n < 256 ^ k → (∀ x ∈ l, x < 256) → l.foldl (fun n c => n * 256 + c) n < 256 ^ (k + l.length) := by
  intro l
  induction l with
  | nil => intro n k h _; simpa using h
  | cons c l ih =>
   intro n k h hl
   have hc := hl c (by simp)
   have := ih (n * 256 + c) (k + 1) (by rw [Nat.pow_succ]; omega) (fun x hx => hl x (by simp [hx]))
   rw [List.foldl_cons, List.length_cons, show k + (l.length + 1) = k + 1 + l.length by omega]
   exact this
 intro hl
 have := key l 0 0 (by decide) hl
 simpa [be] using this
def bts (l : List Nat) : List (List V) := l.map fun n : Nat => [.int .u8 n]
theorem or8 {n c : Nat} (hn : n < 16777216) (hc : c < 256) :
  IntKind.i64.wrap (BitVec.ofInt IntKind.i64.bits (IntKind.i64.wrap ((n : Int) * 2 ^ min (8 : Int).toNat IntKind.i64.bits)) ||| BitVec.ofInt IntKind.i64.bits (IntKind.i64.wrap (c : Int))).toNat = ((n * 256 + c : Nat) : Int) := by
 rw [show ((n : Int) * 2 ^ min (8 : Int).toNat IntKind.i64.bits) = ((n * 256 : Nat) : Int) from by
  rw [show min (8 : Int).toNat IntKind.i64.bits = 8 from rfl]; simp]
 rw [wrap64 (n := ((n * 256 : Nat) : Int)) (by omega) (by omega), wrap64 (n := (c : Int)) (by omega) (by omega)]
 have e : (BitVec.ofInt IntKind.i64.bits ((n * 256 : Nat) : Int) ||| BitVec.ofInt IntKind.i64.bits (c : Int)).toNat = n * 256 + c := by
  show (BitVec.ofInt 64 _ ||| BitVec.ofInt 64 _).toNat = _
  rw [BitVec.toNat_or, BitVec.ofInt_natCast, BitVec.ofInt_natCast, BitVec.toNat_ofNat, BitVec.toNat_ofNat, Nat.mod_eq_of_lt (by omega), Nat.mod_eq_of_lt (by omega)]
  have := Nat.shiftLeft_add_eq_or_of_lt (b := c) (i := 8) (by omega) n
  rw [Nat.shiftLeft_eq] at this
  exact this.symm
 rw [e, wrap64 (by omega) (by omega)]
def nTm (i n : Nat) (l : List Nat) : TM := [(0, .v (.ptr 1000 0)), (3, .v (.int .i64 n)), (8, .v (.lst (bts l) .unk)), (9, .v (.int .i64 (bts l).length)), (10, .v (.int .i64 i))]
theorem be_snoc (l : List Nat) (c : Nat) : be (l ++ [c]) = be l * 256 + c := by simp [be]
theorem num_loop {QN : S → Prop} {QX : X → S → Prop} {ol : OL} (l : List Nat) (hl : l.length ≤ 4) (h8 : ∀ x ∈ l, x < 256) : ∀ (m i : Nat), i + m = l.length → (∀ tm, tg tm 0 = some (.v (.ptr 1000 0)) → tg tm 3 = some (.v (.int .i64 (be l))) → QX (.exit 0) (SL.toS ⟨tm, [], none, 1001, ol, []⟩)) →
  WLr Go.Proofs.Try.prog [] ⟨Go.Proofs.Try.f64.ntmps, none, 64⟩ rc64_L1 (SL.toS ⟨nTm i (be (l.take i)) l, [], none, 1001, ol, []⟩) QN QX := by
 intro m
 induction m with
 | zero =>
  intro i hi hx
  unfold rc64_L1
  refine WLr.of ?_
  rw [List.take_of_length_le (by omega)]
  refine WR.seq (WR.reg (WQ.runS [] 1000 _ _ _ _ rfl (WQ.nilS ?_)))
  rw [show decide ((i : Int) < ((bts l).length : Int)) = false from decide_eq_false (by simp [bts]; omega)]
  repeat (first | refine WR.seq ?_ | refine WR.block ?_ | refine WR.scope ?_ | refine WR.skip ?_ | refine WR.exit ?_ | refine WR.condT rfl ?_ | refine WR.condF rfl ?_ | refine WR.reg (WQ.runS [] 1000 _ _ _ _ rfl ?_) | refine WQ.nilS ?_ | refine WR.dreg hmix (DW.runS [] 1000 _ _ _ _ _ _ rfl ?_))
  exact hx _ rfl rfl
 | succ m ih =>
  intro i hi hx
  have hlt : i < l.length := by omega
  have hc : l[i] < 256 := h8 _ (List.getElem_mem _)
  have hbe : be (l.take i) < 16777216 := by
   have := be_lt (l.take i) (fun x hx => h8 x (List.mem_of_mem_take hx))
   rw [List.length_take] at this
   exact Nat.lt_of_lt_of_le this (Nat.le_trans (Nat.pow_le_pow_right (by decide) (by omega : min i l.length ≤ 3)) (by decide))
  unfold rc64_L1
  refine WLr.of ?_
  refine WR.seq (WR.reg (WQ.runS [] 1000 _ _ _ _ rfl (WQ.nilS ?_)))
  rw [show decide ((i : Int) < ((bts l).length : Int)) = true from decide_eq_true (by simp [bts]; omega)]
  refine WR.seq (WR.condT rfl (WR.skip ?_))
  refine WR.seq (WR.block (WR.seq (WR.reg ?_)))
  refine WQ.lightS rfl rfl rfl (ia_at rfl rfl (es := bts l) (cs := [.int .u8 l[i]]) (by simp [bts, hlt]) rfl) rfl (WQ.runS [] 1000 _ _ _ _ rfl (WQ.nilS ?_))
  repeat (first | refine WR.seq ?_ | refine WR.block ?_ | refine WR.scope ?_ | refine WR.skip ?_ | refine WR.exit ?_ | refine WR.condT rfl ?_ | refine WR.condF rfl ?_ | refine WR.reg (WQ.runS [] 1000 _ _ _ _ rfl ?_) | refine WQ.nilS ?_ | refine WR.dreg hmix (DW.runS [] 1000 _ _ _ _ _ _ rfl ?_))
  rw [or8 hbe hc, ← be_snoc, ← show l.take (i + 1) = l.take i ++ [l[i]] from by rw [List.take_add_one]; simp [hlt], show IntKind.i64.wrap ((i : Int) + 1) = ((i + 1 : Nat) : Int) from by rw [wrap64 (by omega) (by omega)]; rfl]
  refine WIr.again (WLr.weak (s := SL.toS ⟨nTm (i + 1) (be (l.take (i + 1))) l, [], none, 1001, ol, []⟩) ?_ ?_)
  ·refine SW.tellR ?_ ?_
   ·repeat (first | exact .nil | refine .cons rfl (.v (VLe.refl _)) ?_ | refine .cons rfl (.l _ _ rfl) ?_ | refine .cons rfl (.v (VLe.unk _ _)) ?_)
   ·repeat (first | exact .nil | refine .cons rfl (.inl rfl) ?_)
  exact ih (i + 1) (by omega) hx
theorem num_core (b : List Nat) (a : Nat) (w : Bool) (hb : b.length ≤ 4000) (ha : a ≤ b.length) (h8 : ∀ x ∈ b, x < 256) :
  SCall Go.Proofs.Try.prog [] 64 [.ptr 1000 0] none ⟨1001, og (rol b a w), []⟩ (.ret (.int .i64 (numF b a w).1)) none ⟨1001, og (rol b (numF b a w).2.1 (numF b a w).2.2), []⟩ := by
 refine SCall.listed (fn := Go.Proofs.Try.f64) (by kernel_rfl) res64 (by kernel_rfl) (by kernel_rfl) (Nat.le_refl _) rfl (rol_in _ _ _) trivial ?_
 unfold rc64
 repeat (first | refine WR.seq ?_ | refine WR.block ?_ | refine WR.scope ?_ | refine WR.skip ?_ | refine WR.exit ?_ | refine WR.condT rfl ?_ | refine WR.condF rfl ?_ | refine WR.reg (WQ.runS [] 1000 _ _ _ _ rfl ?_) | refine WQ.nilS ?_ | refine WR.dreg hmix (DW.runS [] 1000 _ _ _ _ _ _ rfl ?_))
 refine WQ.callH rfl rfl rfl rfl rfl (take_core b a 4 w hb ha (by omega)) .base rfl ?_
 have hl := takeF_len b a 4 w ha
 have h9 : ∀ x ∈ (takeF b a w 4).1, x < 256 := by
  intro x hx
  unfold takeF at hx
  split at hx
  ·exact h8 x (List.mem_of_mem_drop (List.mem_of_mem_take hx))
  ·cases hx
 have hnum : numF b a w = (be (takeF b a w 4).1, (takeF b a w 4).2.1, (takeF b a w 4).2.2 && decide (be (takeF b a w 4).1 ≤ 2147483647)) := rfl
 rw [hnum]
 generalize takeF b a w 4 = t at hl h9
 obtain ⟨l, a2, w2⟩ := t
 simp only at hl h9 ⊢
 obtain ⟨hl1, hl2, hl3, hl4⟩ := hl
 have hl5 : l.length ≤ 4 := by rcases hl3 with h | h <;> first | (rw [h]; simp; done) | omega
 refine WQ.runS [] 1000 _ _ _ _ rfl (WQ.nilS ?_)
 refine WR.block (WR.loop (WLr.weak (s := SL.toS ⟨nTm 0 (be (l.take 0)) l, [], none, 1001, rol b a2 w2, []⟩) ?_ (num_loop l hl5 h9 l.length 0 (by omega) (fun tm h0 h3 => ?_))))
 ·refine SW.tellR ?_ ?_
  ·repeat (first | exact .nil | refine .cons rfl (.v (VLe.refl _)) ?_ | refine .cons rfl (.l _ _ rfl) ?_ | refine .cons rfl (.v (VLe.unk _ _)) ?_)
  ·repeat (first | exact .nil | refine .cons rfl (.inl rfl) ?_)
 refine WR.weak (s := SL.toS ⟨[(0, .v (.ptr 1000 0)), (3, .v (.int .i64 (be l)))], [], none, 1001, rol b a2 w2, []⟩) (SW.tellR (.cons h0 (.v (VLe.refl _)) (.cons h3 (.v (VLe.refl _)) .nil)) .nil) ?_
 unfold rc64_J2
 cases w2 with
 | false =>
  repeat (first | refine WR.seq ?_ | refine WR.block ?_ | refine WR.scope ?_ | refine WR.skip ?_ | refine WR.exit ?_ | refine WR.condT rfl ?_ | refine WR.condF rfl ?_ | refine WR.reg (WQ.runS [] 1000 _ _ _ _ rfl ?_) | refine WQ.nilS ?_ | refine WR.dreg hmix (DW.runS [] 1000 _ _ _ _ _ _ rfl ?_))
  refine WR.ret ⟨rfl, rfl, ⟨_, rfl, VLe.refl _⟩, fun b _ => rfl⟩
 | true =>
  repeat (first | refine WR.seq ?_ | refine WR.block ?_ | refine WR.scope ?_ | refine WR.skip ?_ | refine WR.exit ?_ | refine WR.condT rfl ?_ | refine WR.condF rfl ?_ | refine WR.reg (WQ.runS [] 1000 _ _ _ _ rfl ?_) | refine WQ.nilS ?_ | refine WR.dreg hmix (DW.runS [] 1000 _ _ _ _ _ _ rfl ?_))
  rw [show decide ((be l : Int) ≤ 2147483647) = decide (be l ≤ 2147483647) from by simp only [decide_eq_decide]; omega]
  refine WR.ret ⟨rfl, rfl, ⟨_, rfl, VLe.refl _⟩, fun b _ => rfl⟩
def textF (b : List Nat) (a : Nat) (w : Bool) : List Nat × Nat × Bool := takeF b (numF b a w).2.1 (numF b a w).2.2 (numF b a w).1
theorem numF_ok (b : List Nat) (a : Nat) (w : Bool) (ha : a ≤ b.length) (h8 : ∀ x ∈ b, x < 256) : (numF b a w).2.1 ≤ b.length ∧ a ≤ (numF b a w).2.1 ∧ (numF b a w).1 ≤ 4294967295 := by
 have hl := takeF_len b a 4 w ha
 refine ⟨hl.1, hl.2.1, ?_⟩
 have h9 : ∀ x ∈ (takeF b a w 4).1, x < 256 := by
  intro x hx
  unfold takeF at hx
  split at hx
  ·exact h8 x (List.mem_of_mem_drop (List.mem_of_mem_take hx))
  ·cases hx
 have h := be_lt _ h9
 have h5 : (takeF b a w 4).1.length ≤ 4 := by rcases hl.2.2.1 with h | h <;> first | (rw [h]; simp; done) | omega
 have : (256 : Nat) ^ (takeF b a w 4).1.length ≤ 256 ^ 4 := Nat.pow_le_pow_right (by decide) h5
 have e : (256 : Nat) ^ 4 = 4294967296 := by decide
 show be _ ≤ _
 omega
theorem textF_ok (b : List Nat) (a : Nat) (w : Bool) (ha : a ≤ b.length) (h8 : ∀ x ∈ b, x < 256) : (textF b a w).2.1 ≤ b.length ∧ a ≤ (textF b a w).2.1 ∧ (textF b a w).1.length ≤ b.length := by
 have h1 := numF_ok b a w ha h8
 have h2 := takeF_len b (numF b a w).2.1 (numF b a w).1 (numF b a w).2.2 h1.1
 exact ⟨h2.1, Nat.le_trans h1.2.1 h2.2.1, h2.2.2.2⟩
theorem text_core (b : List Nat) (a : Nat) (w : Bool) (hb : b.length ≤ 4000) (ha : a ≤ b.length) (h8 : ∀ x ∈ b, x < 256) :
  SCall Go.Proofs.Try.prog [] 63 [.ptr 1000 0] none ⟨1001, og (rol b a w), []⟩ (.ret (.str (textF b a w).1)) none ⟨1001, og (rol b (textF b a w).2.1 (textF b a w).2.2), []⟩ := by
 refine SCall.listed (fn := Go.Proofs.Try.f63) (by kernel_rfl) res63 (by kernel_rfl) (by kernel_rfl) (Nat.le_refl _) rfl (rol_in _ _ _) trivial ?_
 unfold rc63
 have h1 := numF_ok b a w ha h8
 repeat (first | refine WR.seq ?_ | refine WR.block ?_ | refine WR.scope ?_ | refine WR.skip ?_ | refine WR.exit ?_ | refine WR.condT rfl ?_ | refine WR.condF rfl ?_ | refine WR.reg (WQ.runS [] 1000 _ _ _ _ rfl ?_) | refine WQ.nilS ?_ | refine WR.dreg hmix (DW.runS [] 1000 _ _ _ _ _ _ rfl ?_))
 refine WQ.callH rfl rfl rfl rfl rfl (num_core b a w hb ha h8) .base rfl ?_
 refine WQ.callH rfl rfl rfl rfl rfl (take_core b _ _ _ hb h1.1 h1.2.2) .base rfl ?_
 refine WQ.runS [] 1000 _ _ _ _ rfl (WQ.nilS ?_)
 refine WR.ret ⟨rfl, rfl, ⟨_, rfl, VLe.refl _⟩, fun b _ => rfl⟩
theorem rens_low {bs : List Nat} {nx : Nat} {l : List V} (h : Ins (· < glim) l) : rens (ρL bs nx) l = l := rens_id (fun i hi => ρL_low hi) h
theorem rd_lift {f : FuncId} {xs : List V} {v : V} {b : List Nat} {a a2 : Nat} {w w2 : Bool} (core : SCall Go.Proofs.Try.prog [] f (.ptr 1000 0 :: xs) none ⟨1001, og (rol b a w), []⟩ (.ret v) none ⟨1001, og (rol b a2 w2), []⟩) (ha : Ins (· < glim) xs) (hv : v.In (· < glim)) {h : H} {r : Nat} (hr : glim ≤ r) (hob : h.ob r = some (.cells false (rdV b a w))) :
  SCall Go.Proofs.Try.prog [] f (.ptr r 0 :: xs) none h (.ret v) none (h.put r (.cells false (rdV b a2 w2))) := by
 refine SCall.frameL (n := 0) [r] rfl core (by simp) (by simpa using hr) (fun i => ?_) rfl (fun i c o hi ho => ?_) (rol_in _ _ _) ⟨(by show 1000 < glim + 1; decide), Ins.mono (fun i hi => Nat.lt_of_lt_of_le hi (Nat.le_add_right _ _)) ha⟩ (hv.mono fun i hi => Nat.lt_of_lt_of_le hi (Nat.le_add_right _ _)) (rol_in _ _ _) ?_ (V.ren_id (fun i hi => ρL_low hi) hv) rfl rfl (fun i hi => ?_) (fun c hc => ?_)
 ·simp only [rol, og_cons]
  show _ ↔ 1000 ≤ i ∧ i < 1001
  split
  ·simp; omega
  ·simp [og]; omega
 ·match i, hi with
  | 0, hi =>
   cases hi; cases ho
   exact hob
 ·show _ :: rens _ xs = _
  rw [rens_low ha]; rfl
 ·have hi : i < 1 := hi
  match i, hi with
  | 0, _ =>
   show (h.put r _).ob r = _
   simp only [H.put, if_true]
   rfl
 ·have h0 := hc 0 (by show 0 < 1; decide)
  have h0 : r ≠ c := h0
  simp only [H.put]
  rw [if_neg (fun e => h0 e.symm)]
theorem take_spec (b : List Nat) (a n : Nat) (w : Bool) (hb : b.length ≤ 4000) (ha : a ≤ b.length) (hn : n ≤ 4294967295) {h : H} {r : Nat} (hr : glim ≤ r) (hob : h.ob r = some (.cells false (rdV b a w))) :
  SCall Go.Proofs.Try.prog [] 62 [.ptr r 0, .int .i64 n] none h (.ret (.str (takeF b a w n).1)) none (h.put r (.cells false (rdV b (takeF b a w n).2.1 (takeF b a w n).2.2))) :=
 rd_lift (take_core b a n w hb ha hn) ⟨trivial, trivial⟩ trivial hr hob
theorem num_spec (b : List Nat) (a : Nat) (w : Bool) (hb : b.length ≤ 4000) (ha : a ≤ b.length) (h8 : ∀ x ∈ b, x < 256) {h : H} {r : Nat} (hr : glim ≤ r) (hob : h.ob r = some (.cells false (rdV b a w))) :
  SCall Go.Proofs.Try.prog [] 64 [.ptr r 0] none h (.ret (.int .i64 (numF b a w).1)) none (h.put r (.cells false (rdV b (numF b a w).2.1 (numF b a w).2.2))) :=
 rd_lift (num_core b a w hb ha h8) trivial trivial hr hob
theorem text_spec (b : List Nat) (a : Nat) (w : Bool) (hb : b.length ≤ 4000) (ha : a ≤ b.length) (h8 : ∀ x ∈ b, x < 256) {h : H} {r : Nat} (hr : glim ≤ r) (hob : h.ob r = some (.cells false (rdV b a w))) :
  SCall Go.Proofs.Try.prog [] 63 [.ptr r 0] none h (.ret (.str (textF b a w).1)) none (h.put r (.cells false (rdV b (textF b a w).2.1 (textF b a w).2.2))) :=
 rd_lift (text_core b a w hb ha h8) trivial trivial hr hob
end Go.VM
