/- laid for this seat: VtRef -/
import Derived.Test.YtonlemmcdecibaaRcRef
import Derived.Test.YtonlemmcdecibaaVtScan5
/- The document's reader of bytes. -/
set_option maxRecDepth 100000
set_option linter.unusedVariables false
set_option linter.unusedSimpArgs false
namespace Go.VM
open Go.RowKit
def oneF (b : List Nat) (a : Nat) (lost : Bool) : Nat × Nat × Bool := match b[a]? with
 | some c => (c, a + 1, lost)
 | none => (0, a, true)
theorem idxs_nat {nt : Nat} {tm : TM} {h : H} {x i : RX} {k : IntKind} {s : List Nat} {n c : Nat} (hx : rv [] tm x = some (.str s)) (hi : rv [] tm i = some (.int k n)) (hc : s[n]? = some c) : LightR Go.Proofs.Try.prog [] nt tm h (some (.idxs x i)) (.v (.int .u8 c)) := by
 refine lightX_sound ?_
 have e : lightC [] tm h (.idxs x i) = some (.v (.int .u8 c)) := by
  simp only [lightC, hx, hi, Option.bind_some, asIdx]
  have : (0 : Int) ≤ (n : Int) := by omega
  rw [if_pos this]
  simp [hc]
 exact lightC_eq e
theorem one_core (b : List Nat) (a : Nat) (w : Bool) (hb : b.length ≤ 4000) (h8 : ∀ x ∈ b, x < 256) :
  SCall Go.Proofs.Try.prog [] 36 [.ptr 1000 0] none ⟨1001, og (rol b a w), []⟩ (.ret (.int .i64 (oneF b a w).1)) none ⟨1001, og (rol b (oneF b a w).2.1 (oneF b a w).2.2), []⟩ := by
 refine SCall.listed (fn := Go.Proofs.Try.f36) (by kernel_rfl) res36 (by kernel_rfl) (by kernel_rfl) (Nat.le_refl _) rfl (rol_in _ _ _) trivial ?_
 unfold rc36
 repeat (first | refine WR.seq ?_ | refine WR.block ?_ | refine WR.scope ?_ | refine WR.skip ?_ | refine WR.exit ?_ | refine WR.condT rfl ?_ | refine WR.condF rfl ?_ | refine WR.reg (WQ.runS [] 1000 _ _ _ _ rfl ?_) | refine WQ.nilS ?_ | refine WR.dreg hmix (DW.runS [] 1000 _ _ _ _ _ _ rfl ?_))
 refine DW.finS (by repeat (first | exact .nil | refine PendR.passM rfl ?_ | refine PendR.sameM rfl ?_ | refine PendR.lightM rfl ?_)) ?_
 cases hk : b[a]? with
 | none =>
  have hge : b.length ≤ a := List.getElem?_eq_none_iff.1 hk
  rw [show oneF b a w = (0, a, true) from by simp [oneF, hk]]
  rw [show decide ((a : Int) ≥ (b.length : Int)) = true from decide_eq_true (by omega)]
  repeat (first | refine WR.seq ?_ | refine WR.block ?_ | refine WR.scope ?_ | refine WR.skip ?_ | refine WR.exit ?_ | refine WR.condT rfl ?_ | refine WR.condF rfl ?_ | refine WR.reg (WQ.runS [] 1000 _ _ _ _ rfl ?_) | refine WQ.nilS ?_ | refine WR.dreg hmix (DW.runS [] 1000 _ _ _ _ _ _ rfl ?_))
  refine WR.ret ⟨rfl, rfl, ⟨_, rfl, VLe.refl _⟩, fun b _ => rfl⟩
 | some c =>
  have hlt := (List.getElem?_eq_some_iff.1 hk).1
  have hc := h8 c (List.mem_of_getElem? hk)
  rw [show oneF b a w = (c, a + 1, w) from by simp [oneF, hk]]
  rw [show decide ((a : Int) ≥ (b.length : Int)) = false from decide_eq_false (by omega)]
  refine WR.condF rfl (WR.skip ?_)
  refine WR.seq (WR.reg (WQ.runS [] 1000 _ _ _ _ rfl (WQ.nilS ?_)))
  rw [show IntKind.i64.wrap ((a : Int) + 1) = ((a + 1 : Nat) : Int) from by rw [wrap64 (by omega) (by omega)]; rfl]
  refine WR.seq (WR.dreg hmix (DW.runS [] 9 _ _ _ _ _ _ rfl ?_))
  rw [show IntKind.i64.wrap (((a + 1 : Nat) : Int) - 1) = (a : Int) from by rw [wrap64 (by omega) (by omega)]; omega]
  refine DW.pureS rfl (fun h => idxs_nat rfl rfl hk) rfl (DW.runS [] 1000 _ _ _ _ _ _ rfl ?_)
  rw [show IntKind.i64.wrap (c : Int) = (c : Int) from wrap64 (by omega) (by omega)]
  refine DW.finS (by repeat (first | exact .nil | refine PendR.passM rfl ?_ | refine PendR.sameM rfl ?_ | refine PendR.lightM rfl ?_)) ?_
  refine WR.ret ⟨rfl, rfl, ⟨_, rfl, VLe.refl _⟩, fun b _ => rfl⟩
theorem oneF_lt {b : List Nat} {a : Nat} {w : Bool} (h8 : ∀ x ∈ b, x < 256) : (oneF b a w).1 < 256 := by
 unfold oneF
 split
 ·rename_i c hk; exact h8 c (List.mem_of_getElem? hk)
 ·simp
def itR (b : List Nat) : Nat → Nat → Nat → Bool → Nat × Nat × Bool
 | 0, n, a, w => (n, a, w)
 | m + 1, n, a, w => itR b m (256 * n + (oneF b a w).1) (oneF b a w).2.1 (oneF b a w).2.2
def numR (b : List Nat) (a : Nat) (w : Bool) : Nat × Nat × Bool := ((itR b 4 0 a w).1, (itR b 4 0 a w).2.1, (itR b 4 0 a w).2.2 || decide ((itR b 4 0 a w).1 > 2147483647))
theorem itR_lt {b : List Nat} (h8 : ∀ x ∈ b, x < 256) : ∀ (m i n a : Nat) (w : Bool), n < 256 ^ i → (itR b m n a w).1 < 256 ^ (i + m)
 | 0, i, n, a, w, h => h
 | m + 1, i, n, a, w, h => by
  have h1 := oneF_lt (a := a) (w := w) h8
  have := itR_lt h8 m (i + 1) (256 * n + (oneF b a w).1) (oneF b a w).2.1 (oneF b a w).2.2 (by rw [Nat.pow_succ]; omega)
  rw [show i + (m + 1) = i + 1 + m by omega]
  exact this
def rTm (i n : Nat) : TM := [(0, .v (.ptr 1000 0)), (3, .v (.int .i64 n)), (4, .v (.int .i64 i))]
theorem numR_loop {QN : S → Prop} {QX : X → S → Prop} (b : List Nat) (hb : b.length ≤ 4000) (h8 : ∀ x ∈ b, x < 256) : ∀ (m i n a : Nat) (w : Bool), i + m = 4 → n < 256 ^ i →
  (∀ tm, tg tm 0 = some (.v (.ptr 1000 0)) → tg tm 3 = some (.v (.int .i64 (itR b m n a w).1)) → QX (.exit 0) (SL.toS ⟨tm, [], none, 1001, rol b (itR b m n a w).2.1 (itR b m n a w).2.2, []⟩)) →
  WLr Go.Proofs.Try.prog [] ⟨Go.Proofs.Try.f38.ntmps, none, 38⟩ rc38_L1 (SL.toS ⟨rTm i n, [], none, 1001, rol b a w, []⟩) QN QX := by
 intro m
 induction m with
 | zero =>
  intro i n a w hi hn hx
  unfold rc38_L1
  refine WLr.of ?_
  refine WR.seq (WR.seq (WR.reg (WQ.runS [] 1000 _ _ _ _ rfl (WQ.nilS ?_))))
  rw [show decide ((i : Int) < 4) = false from decide_eq_false (by omega)]
  repeat (first | refine WR.seq ?_ | refine WR.block ?_ | refine WR.scope ?_ | refine WR.skip ?_ | refine WR.exit ?_ | refine WR.condT rfl ?_ | refine WR.condF rfl ?_ | refine WR.reg (WQ.runS [] 1000 _ _ _ _ rfl ?_) | refine WQ.nilS ?_ | refine WR.dreg hmix (DW.runS [] 1000 _ _ _ _ _ _ rfl ?_))
  exact hx _ rfl rfl
 | succ m ih =>
  intro i n a w hi hn hx
  have hp : (256 : Nat) ^ i ≤ 256 ^ 3 := Nat.pow_le_pow_right (by decide) (by omega)
  have e3 : (256 : Nat) ^ 3 = 16777216 := by decide
  have h1 := oneF_lt (a := a) (w := w) h8
  unfold rc38_L1
  refine WLr.of ?_
  refine WR.seq (WR.seq (WR.reg (WQ.runS [] 1000 _ _ _ _ rfl (WQ.nilS ?_))))
  rw [show decide ((i : Int) < 4) = true from decide_eq_true (by omega)]
  refine WR.condT rfl (WR.skip ?_)
  refine WR.seq (WR.block (WR.reg (WQ.runS [] 3 _ _ _ _ rfl ?_)))
  refine WQ.callH rfl rfl rfl rfl rfl (one_core b a w hb h8) .base rfl ?_
  rw [show IntKind.i64.wrap (256 * (n : Int)) = ((256 * n : Nat) : Int) from by rw [wrap64 (by omega) (by omega)]; simp]
  refine WQ.runS [] 1000 _ _ _ _ rfl (WQ.nilS ?_)
  rw [show IntKind.i64.wrap (((256 * n : Nat) : Int) + ((oneF b a w).1 : Int)) = ((256 * n + (oneF b a w).1 : Nat) : Int) from by rw [wrap64 (by omega) (by omega)]; simp]
  unfold rc38_J1
  repeat (first | refine WR.seq ?_ | refine WR.block ?_ | refine WR.scope ?_ | refine WR.skip ?_ | refine WR.exit ?_ | refine WR.condT rfl ?_ | refine WR.condF rfl ?_ | refine WR.reg (WQ.runS [] 1000 _ _ _ _ rfl ?_) | refine WQ.nilS ?_ | refine WR.dreg hmix (DW.runS [] 1000 _ _ _ _ _ _ rfl ?_))
  rw [show IntKind.i64.wrap ((i : Int) + 1) = ((i + 1 : Nat) : Int) from by rw [wrap64 (by omega) (by omega)]; rfl]
  refine WIr.again (WLr.weak (s := SL.toS ⟨rTm (i + 1) (256 * n + (oneF b a w).1), [], none, 1001, rol b (oneF b a w).2.1 (oneF b a w).2.2, []⟩) ?_ ?_)
  ·refine SW.tellR ?_ ?_
   ·repeat (first | exact .nil | refine .cons rfl (.v (VLe.refl _)) ?_ | refine .cons rfl (.l _ _ rfl) ?_ | refine .cons rfl (.v (VLe.unk _ _)) ?_)
   ·repeat (first | exact .nil | refine .cons rfl (.inl rfl) ?_)
  exact ih (i + 1) _ _ _ (by omega) (by rw [Nat.pow_succ]; omega) hx
theorem numR_core (b : List Nat) (a : Nat) (w : Bool) (hb : b.length ≤ 4000) (h8 : ∀ x ∈ b, x < 256) :
  SCall Go.Proofs.Try.prog [] 38 [.ptr 1000 0] none ⟨1001, og (rol b a w), []⟩ (.ret (.int .i64 (numR b a w).1)) none ⟨1001, og (rol b (numR b a w).2.1 (numR b a w).2.2), []⟩ := by
 refine SCall.listed (fn := Go.Proofs.Try.f38) (by kernel_rfl) res38 (by kernel_rfl) (by kernel_rfl) (Nat.le_refl _) rfl (rol_in _ _ _) trivial ?_
 unfold rc38
 refine WR.seq (WR.reg (WQ.runS [] 1000 _ _ _ _ rfl (WQ.nilS ?_)))
 refine WR.seq (WR.reg (WQ.runS [] 1000 _ _ _ _ rfl (WQ.nilS ?_)))
 refine WR.seq (WR.seq (WR.reg (WQ.runS [] 1000 _ _ _ _ rfl (WQ.nilS ?_))))
 have hlt := itR_lt h8 4 0 0 a w (by decide)
 have e4 : (256 : Nat) ^ (0 + 4) = 4294967296 := by decide
 refine WR.block (WR.loop (WLr.weak (s := SL.toS ⟨rTm 0 0, [], none, 1001, rol b a w, []⟩) ?_ (numR_loop b hb h8 4 0 0 a w rfl (by decide) (fun tm h0 h3 => ?_))))
 ·refine SW.tellR ?_ ?_
  ·repeat (first | exact .nil | refine .cons rfl (.v (VLe.refl _)) ?_ | refine .cons rfl (.l _ _ rfl) ?_ | refine .cons rfl (.v (VLe.unk _ _)) ?_)
  ·repeat (first | exact .nil | refine .cons rfl (.inl rfl) ?_)
 refine WR.weak (s := SL.toS ⟨[(0, .v (.ptr 1000 0)), (3, .v (.int .i64 (itR b 4 0 a w).1))], [], none, 1001, rol b (itR b 4 0 a w).2.1 (itR b 4 0 a w).2.2, []⟩) (SW.tellR (.cons h0 (.v (VLe.refl _)) (.cons h3 (.v (VLe.refl _)) .nil)) .nil) ?_
 unfold numR
 generalize itR b 4 0 a w = r at *
 obtain ⟨n, a2, w2⟩ := r
 simp only at hlt ⊢
 unfold rc38_J3
 refine WR.seq (WR.seq (WR.reg (WQ.runS [] 1000 _ _ _ _ rfl (WQ.nilS ?_))))
 refine WR.cond rfl (fun h1 => ?_) (fun h1 => ?_)
 ·have h1 := of_decide_eq_true h1
  rw [show (w2 || decide (n > 2147483647)) = true from by rw [decide_eq_true (by omega)]; simp]
  unfold rc38_J2
  repeat (first | refine WR.seq ?_ | refine WR.block ?_ | refine WR.scope ?_ | refine WR.skip ?_ | refine WR.exit ?_ | refine WR.condT rfl ?_ | refine WR.condF rfl ?_ | refine WR.reg (WQ.runS [] 1000 _ _ _ _ rfl ?_) | refine WQ.nilS ?_ | refine WR.dreg hmix (DW.runS [] 1000 _ _ _ _ _ _ rfl ?_))
  refine WR.ret ⟨rfl, rfl, ⟨_, rfl, VLe.refl _⟩, fun b _ => rfl⟩
 ·have h1 := of_decide_eq_false h1
  rw [show (w2 || decide (n > 2147483647)) = w2 from by rw [decide_eq_false (by omega)]; simp]
  unfold rc38_J2
  repeat (first | refine WR.seq ?_ | refine WR.block ?_ | refine WR.scope ?_ | refine WR.skip ?_ | refine WR.exit ?_ | refine WR.condT rfl ?_ | refine WR.condF rfl ?_ | refine WR.reg (WQ.runS [] 1000 _ _ _ _ rfl ?_) | refine WQ.nilS ?_ | refine WR.dreg hmix (DW.runS [] 1000 _ _ _ _ _ _ rfl ?_))
  refine WR.ret ⟨rfl, rfl, ⟨_, rfl, VLe.refl _⟩, fun b _ => rfl⟩
def textR (b : List Nat) (a : Nat) (w : Bool) : List Nat × Nat × Bool :=
 if (numR b a w).2.2 = true ∨ (numR b a w).1 > b.length - (numR b a w).2.1 then ([], (numR b a w).2.1, true) else ((b.drop (numR b a w).2.1).take (numR b a w).1, (numR b a w).2.1 + (numR b a w).1, false)
theorem oneF_le {b : List Nat} {a : Nat} {w : Bool} (ha : a ≤ b.length) : (oneF b a w).2.1 ≤ b.length ∧ a ≤ (oneF b a w).2.1 := by
 unfold oneF
 split
 ·rename_i c hk
  have := (List.getElem?_eq_some_iff.1 hk).1
  simp only; omega
 ·simp only; omega
theorem itR_le {b : List Nat} : ∀ (m n a : Nat) (w : Bool), a ≤ b.length → (itR b m n a w).2.1 ≤ b.length ∧ a ≤ (itR b m n a w).2.1
 | 0, n, a, w, ha => ⟨ha, Nat.le_refl _⟩
 | m + 1, n, a, w, ha => by
  have h1 := oneF_le (w := w) ha
  have h2 := itR_le m (256 * n + (oneF b a w).1) (oneF b a w).2.1 (oneF b a w).2.2 h1.1
  exact ⟨h2.1, Nat.le_trans h1.2 h2.2⟩
theorem numR_ok {b : List Nat} {a : Nat} {w : Bool} (ha : a ≤ b.length) (h8 : ∀ x ∈ b, x < 256) : (numR b a w).2.1 ≤ b.length ∧ a ≤ (numR b a w).2.1 ∧ (numR b a w).1 < 4294967296 := by
 have h1 := itR_le 4 0 a w ha
 have h2 := itR_lt h8 4 0 0 a w (by decide)
 have e4 : (256 : Nat) ^ (0 + 4) = 4294967296 := by decide
 exact ⟨h1.1, h1.2, by show (itR b 4 0 a w).1 < _; omega⟩
theorem textR_core (b : List Nat) (a : Nat) (w : Bool) (hb : b.length ≤ 4000) (ha : a ≤ b.length) (h8 : ∀ x ∈ b, x < 256) :
  SCall Go.Proofs.Try.prog [] 37 [.ptr 1000 0] none ⟨1001, og (rol b a w), []⟩ (.ret (.str (textR b a w).1)) none ⟨1001, og (rol b (textR b a w).2.1 (textR b a w).2.2), []⟩ := by
 refine SCall.listed (fn := Go.Proofs.Try.f37) (by kernel_rfl) res37 (by kernel_rfl) (by kernel_rfl) (Nat.le_refl _) rfl (rol_in _ _ _) trivial ?_
 unfold rc37
 refine WR.seq (WR.reg (WQ.runS [] 1000 _ _ _ _ rfl (WQ.nilS ?_)))
 refine WR.seq (WR.reg (WQ.runS [] 1 _ _ _ _ rfl ?_))
 refine WQ.callH rfl rfl rfl rfl rfl (numR_core b a w hb h8) .base rfl (WQ.runS [] 1000 _ _ _ _ rfl (WQ.nilS ?_))
 have hn := numR_ok (w := w) ha h8
 unfold textR
 generalize numR b a w = r at *
 obtain ⟨n, a2, w2⟩ := r
 simp only at hn ⊢
 obtain ⟨hn1, hn2, hn3⟩ := hn
 cases w2 with
 | true =>
  rw [if_pos (Or.inl rfl)]
  repeat (first | refine WR.seq ?_ | refine WR.block ?_ | refine WR.scope ?_ | refine WR.skip ?_ | refine WR.exit ?_ | refine WR.condT rfl ?_ | refine WR.condF rfl ?_ | refine WR.reg (WQ.runS [] 1000 _ _ _ _ rfl ?_) | refine WQ.nilS ?_ | refine WR.dreg hmix (DW.runS [] 1000 _ _ _ _ _ _ rfl ?_))
  refine DW.finS (by repeat (first | exact .nil | refine PendR.passM rfl ?_ | refine PendR.sameM rfl ?_ | refine PendR.lightM rfl ?_)) ?_
  repeat (first | refine WR.seq ?_ | refine WR.block ?_ | refine WR.scope ?_ | refine WR.skip ?_ | refine WR.exit ?_ | refine WR.condT rfl ?_ | refine WR.condF rfl ?_ | refine WR.reg (WQ.runS [] 1000 _ _ _ _ rfl ?_) | refine WQ.nilS ?_ | refine WR.dreg hmix (DW.runS [] 1000 _ _ _ _ _ _ rfl ?_))
  refine WR.ret ⟨rfl, rfl, ⟨_, rfl, VLe.refl _⟩, fun b _ => rfl⟩
 | false =>
  repeat (first | refine WR.seq ?_ | refine WR.block ?_ | refine WR.scope ?_ | refine WR.skip ?_ | refine WR.exit ?_ | refine WR.condT rfl ?_ | refine WR.condF rfl ?_ | refine WR.reg (WQ.runS [] 1000 _ _ _ _ rfl ?_) | refine WQ.nilS ?_ | refine WR.dreg hmix (DW.runS [] 1000 _ _ _ _ _ _ rfl ?_))
  refine DW.finS (by repeat (first | exact .nil | refine PendR.passM rfl ?_ | refine PendR.sameM rfl ?_ | refine PendR.lightM rfl ?_)) ?_
  refine WR.cond rfl (fun h1 => ?_) (fun h1 => ?_)
  ·have h1 := of_decide_eq_true h1
   rw [wrap64 (by omega) (by omega)] at h1
   rw [if_pos (Or.inr (by omega))]
   repeat (first | refine WR.seq ?_ | refine WR.block ?_ | refine WR.scope ?_ | refine WR.skip ?_ | refine WR.exit ?_ | refine WR.condT rfl ?_ | refine WR.condF rfl ?_ | refine WR.reg (WQ.runS [] 1000 _ _ _ _ rfl ?_) | refine WQ.nilS ?_ | refine WR.dreg hmix (DW.runS [] 1000 _ _ _ _ _ _ rfl ?_))
   refine WR.ret ⟨rfl, rfl, ⟨_, rfl, VLe.refl _⟩, fun b _ => rfl⟩
  ·have h1 := of_decide_eq_false h1
   rw [wrap64 (by omega) (by omega)] at h1
   rw [if_neg (by simp; omega)]
   repeat (first | refine WR.seq ?_ | refine WR.block ?_ | refine WR.scope ?_ | refine WR.skip ?_ | refine WR.exit ?_ | refine WR.condT rfl ?_ | refine WR.condF rfl ?_ | refine WR.reg (WQ.runS [] 1000 _ _ _ _ rfl ?_) | refine WQ.nilS ?_ | refine WR.dreg hmix (DW.runS [] 1000 _ _ _ _ _ _ rfl ?_))
   rw [show IntKind.i64.wrap ((a2 : Int) + n) = ((a2 + n : Nat) : Int) from by rw [wrap64 (by omega) (by omega)]; simp]
   refine WR.dreg hmix (DW.runS [] 14 _ _ _ _ _ _ rfl ?_)
   rw [show IntKind.i64.wrap (((a2 + n : Nat) : Int) - n) = (a2 : Int) from by rw [wrap64 (by omega) (by omega)]; omega]
   refine DW.pureS rfl (fun h => slc_str rfl rfl rfl (by omega) (by omega)) rfl (DW.runS [] 1000 _ _ _ _ _ _ rfl ?_)
   rw [show a2 + n - a2 = n from by omega]
   refine DW.finS (by repeat (first | exact .nil | refine PendR.passM rfl ?_ | refine PendR.sameM rfl ?_ | refine PendR.lightM rfl ?_)) ?_
   refine WR.ret ⟨rfl, rfl, ⟨_, rfl, VLe.refl _⟩, fun b _ => rfl⟩
theorem one_spec (b : List Nat) (a : Nat) (w : Bool) (hb : b.length ≤ 4000) (h8 : ∀ x ∈ b, x < 256) {h : H} {r : Nat} (hr : glim ≤ r) (hob : h.ob r = some (.cells false (rdV b a w))) :
  SCall Go.Proofs.Try.prog [] 36 [.ptr r 0] none h (.ret (.int .i64 (oneF b a w).1)) none (h.put r (.cells false (rdV b (oneF b a w).2.1 (oneF b a w).2.2))) :=
 rd_lift (one_core b a w hb h8) trivial trivial hr hob
theorem numR_spec (b : List Nat) (a : Nat) (w : Bool) (hb : b.length ≤ 4000) (h8 : ∀ x ∈ b, x < 256) {h : H} {r : Nat} (hr : glim ≤ r) (hob : h.ob r = some (.cells false (rdV b a w))) :
  SCall Go.Proofs.Try.prog [] 38 [.ptr r 0] none h (.ret (.int .i64 (numR b a w).1)) none (h.put r (.cells false (rdV b (numR b a w).2.1 (numR b a w).2.2))) :=
 rd_lift (numR_core b a w hb h8) trivial trivial hr hob
theorem textR_spec (b : List Nat) (a : Nat) (w : Bool) (hb : b.length ≤ 4000) (ha : a ≤ b.length) (h8 : ∀ x ∈ b, x < 256) {h : H} {r : Nat} (hr : glim ≤ r) (hob : h.ob r = some (.cells false (rdV b a w))) :
  SCall Go.Proofs.Try.prog [] 37 [.ptr r 0] none h (.ret (.str (textR b a w).1)) none (h.put r (.cells false (rdV b (textR b a w).2.1 (textR b a w).2.2))) :=
 rd_lift (textR_core b a w hb ha h8) trivial trivial hr hob
end Go.VM
