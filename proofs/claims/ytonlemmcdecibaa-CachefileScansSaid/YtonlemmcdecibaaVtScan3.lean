/- laid for this seat: VtScan3 -/
import Derived.Test.YtonlemmcdecibaaVtScan2
/- The cache's file: the loop over records. -/
set_option maxRecDepth 100000
set_option linter.unusedVariables false
set_option linter.unusedSimpArgs false
namespace Go.VM
open Go.RowKit
def recF (b : List Nat) (a : Nat) (kind : Nat) : Option (Rec × Bool) :=
 if kind = 1 then
  let k := textF b (a + 1) true
  let v := textF b k.2.1 k.2.2
  some (⟨kind, k.1, v.1, 0, v.2.1⟩, v.2.2)
 else if kind = 2 ∨ kind = 3 then
  let n := numF b (a + 1) true
  some (⟨kind, [], [], n.1, n.2.1⟩, n.2.2)
 else none
def scanL (b : List Nat) : Nat → Nat → Sc → Sc × Nat × Bool × Bool
 | 0, a, s => (s, a, true, false)
 | m + 1, a, s => match b[a]? with
  | none => (s, a, true, false)
  | some kind => match recF b a kind with
   | none => (s, a + 1, true, false)
   | some (x, false) => (s, x.e, false, false)
   | some (x, true) => match addF s x with
    | none => (s, x.e, true, true)
    | some s' => scanL b m x.e s'
theorem recF_ok {b : List Nat} {a kind : Nat} {x : Rec} {w : Bool} (hk : b[a]? = some kind) (h8 : ∀ x ∈ b, x < 256) (h : recF b a kind = some (x, w)) : a < x.e ∧ x.e ≤ b.length ∧ x.n ≤ 4294967295 ∧ x.kind = kind := by
 have hlt := (List.getElem?_eq_some_iff.1 hk).1
 unfold recF at h
 split at h
 ·rename_i h1
  cases h
  have t1 := textF_ok b (a + 1) true (by omega) h8
  have t2 := textF_ok b _ (textF b (a + 1) true).2.2 t1.1 h8
  exact ⟨by have := t1.2.1; have := t2.2.1; simp only; omega, t2.1, Nat.zero_le _, rfl⟩
 ·split at h
  ·cases h
   have t1 := numF_ok b (a + 1) true (by omega) h8
   exact ⟨by have := t1.2.1; simp only; omega, t1.1, t1.2.2, rfl⟩
  ·cases h
def tmL : TM := [(0, .v (.fn (.yield 1005) [] [])), (1, .v (.ptr 1003 0)), (3, .v (.ptr 1006 0))]
noncomputable def lpE (j : Bool) (asC bdC : Code) : ALoop := if j then lpS .done (some (.exit 0)) asC bdC else lpS .ready none asC bdC
def tmT : TM := [(0, .v (.fn (.yield 1005) [] [])), (1, .v (.ptr 1003 0)), (3, .v (.ptr 1006 0)), (4, .l 4 0)]
theorem scan_tail {asC bdC : Code} (ha : resC Go.Proofs.Try.prog asC = some scA) (hb : resC Go.Proofs.Try.prog bdC = some scB) (b : List Nat) (s : Sc) (x : Rec) (w3 : Bool) (hn : x.n ≤ 4294967295) (hl : s.l.length ≤ 4000) (hlast : s.last ≤ 4000) {QN : S → Prop} {QX QX2 : X → S → Prop}
  (hagain : ∀ s', w3 = true → addF s x = some s' → WLr Go.Proofs.Try.prog [] ⟨Go.Proofs.Try.f61.ntmps, none, 61⟩ rc61_L1 (SL.toS ⟨tmL, [], none, nxF s'.l, memF s' b (lpS .ready none asC bdC) x.e true, []⟩) QN QX)
  (h1 : ∀ tm lc, w3 = false → QX2 .ret (SL.toS ⟨tm, [], none, nxF s.l, memF s b (lpS .ready none asC bdC) x.e false, lc⟩))
  (h2 : ∀ tm lc, w3 = true → addF s x = none → QX2 .ret (SL.toS ⟨tm, [], none, nxF s.l, memF s b (lpS .done (some (.exit 0)) asC bdC) x.e true, lc⟩)) :
  WR Go.Proofs.Try.prog [] ⟨Go.Proofs.Try.f61.ntmps, none, 61⟩ rc61_J2 (SL.toS ⟨tmT, [], none, nxF s.l, mem (lvF s.l) s.good s.last b (lpS .ready none asC bdC) x.e w3 (rowF s.l), [(4, encR { x with e := 0 })]⟩) (fun s1 => WIr Go.Proofs.Try.prog [] ⟨Go.Proofs.Try.f61.ntmps, none, 61⟩ rc61_L1 s1 QN QX) QX2 := by
 unfold rc61_J2
 cases w3 with
 | false =>
  repeat (first | refine WR.seq ?_ | refine WR.block ?_ | refine WR.scope ?_ | refine WR.skip ?_ | refine WR.exit ?_ | refine WR.condT rfl ?_ | refine WR.condF rfl ?_ | refine WR.reg (WQ.runS [] 1000 _ _ _ _ rfl ?_) | refine WQ.nilS ?_ | refine WR.dreg hmix (DW.runS [] 1000 _ _ _ _ _ _ rfl ?_))
  exact WR.ret (h1 _ _ rfl)
 | true =>
  refine WR.seq (WR.reg (WQ.runS [] 1000 _ _ _ _ rfl (WQ.nilS ?_)))
  refine WR.seq (WR.reg (WQ.runS [] 1000 _ _ _ _ rfl ?_))
  cases hadd : addF s x with
  | none =>
   refine WQ.yieldS rfl rfl rfl rfl ((round_none ha hb s x hadd hn b x.e true).relc _) rfl ?_
   refine WQ.runS [] 1000 _ _ _ _ rfl (WQ.nilS ?_)
   repeat (first | refine WR.seq ?_ | refine WR.block ?_ | refine WR.scope ?_ | refine WR.skip ?_ | refine WR.exit ?_ | refine WR.condT rfl ?_ | refine WR.condF rfl ?_ | refine WR.reg (WQ.runS [] 1000 _ _ _ _ rfl ?_) | refine WQ.nilS ?_ | refine WR.dreg hmix (DW.runS [] 1000 _ _ _ _ _ _ rfl ?_))
   exact WR.ret (h2 _ _ rfl hadd)
  | some s' =>
   refine WQ.yieldS rfl rfl rfl rfl ((round_some ha hb s s' x hadd hl hlast b x.e true).relc _) rfl ?_
   refine WQ.runS [] 1000 _ _ _ _ rfl (WQ.nilS ?_)
   repeat (first | refine WR.seq ?_ | refine WR.block ?_ | refine WR.scope ?_ | refine WR.skip ?_ | refine WR.exit ?_ | refine WR.condT rfl ?_ | refine WR.condF rfl ?_ | refine WR.reg (WQ.runS [] 1000 _ _ _ _ rfl ?_) | refine WQ.nilS ?_ | refine WR.dreg hmix (DW.runS [] 1000 _ _ _ _ _ _ rfl ?_))
   refine WIr.again (WLr.weak (s := SL.toS ⟨tmL, [], none, nxF s'.l, memF s' b (lpS .ready none asC bdC) x.e true, []⟩) ?_ (hagain s' rfl hadd))
   refine SW.tellR ?_ ?_
   ·repeat (first | exact .nil | refine .cons rfl (.v (VLe.refl _)) ?_ | refine .cons rfl (.l _ _ rfl) ?_ | refine .cons rfl (.v (VLe.unk _ _)) ?_)
   ·repeat (first | exact .nil | refine .cons rfl (.inl rfl) ?_)
theorem addF_le {s s' : Sc} {x : Rec} (h : addF s x = some s') : s'.l.length ≤ s.l.length + 1 ∧ s'.last ≤ s.last + 1 ∧ s'.good = x.e := by
 unfold addF at h
 split at h
 ·cases h; simp
 ·split at h
  ·cases h
  ·split at h
   ·cases h; simp
   ·cases h
theorem scan_loop {asC bdC : Code} (ha : resC Go.Proofs.Try.prog asC = some scA) (hb : resC Go.Proofs.Try.prog bdC = some scB) (b : List Nat) (hlen : b.length ≤ 4000) (h8 : ∀ x ∈ b, x < 256) {QN : S → Prop} {QX : X → S → Prop} : ∀ (m a : Nat) (s : Sc), b.length - a < m → a ≤ b.length → s.l.length ≤ a → s.last ≤ a →
  (∀ tm lc x, (x = .ret ∨ x = .exit 0) → QX x (SL.toS ⟨tm, [], none, nxF (scanL b m a s).1.l, memF (scanL b m a s).1 b (lpE (scanL b m a s).2.2.2 asC bdC) (scanL b m a s).2.1 (scanL b m a s).2.2.1, lc⟩)) →
  WLr Go.Proofs.Try.prog [] ⟨Go.Proofs.Try.f61.ntmps, none, 61⟩ rc61_L1 (SL.toS ⟨tmL, [], none, nxF s.l, memF s b (lpS .ready none asC bdC) a true, []⟩) QN QX := by
 intro m
 induction m with
 | zero => intro a s h; omega
 | succ m ih =>
  intro a s hm hal hl hlast hx
  unfold rc61_L1
  refine WLr.of ?_
  unfold memF
  refine WR.seq (WR.seq (WR.dreg hmix (DW.runS [] 1000 _ _ _ _ _ _ rfl ?_)))
  refine DW.finS (by repeat (first | exact .nil | refine PendR.passM rfl ?_ | refine PendR.sameM rfl ?_ | refine PendR.lightM rfl ?_)) ?_
  cases hk : b[a]? with
  | none =>
   have hge : b.length ≤ a := List.getElem?_eq_none_iff.1 hk
   rw [show decide ((a : Int) < (b.length : Int)) = false from decide_eq_false (by omega)]
   repeat (first | refine WR.seq ?_ | refine WR.block ?_ | refine WR.scope ?_ | refine WR.skip ?_ | refine WR.exit ?_ | refine WR.condT rfl ?_ | refine WR.condF rfl ?_ | refine WR.reg (WQ.runS [] 1000 _ _ _ _ rfl ?_) | refine WQ.nilS ?_ | refine WR.dreg hmix (DW.runS [] 1000 _ _ _ _ _ _ rfl ?_))
   have := hx
   simp only [scanL, hk] at hx
   exact hx _ _ _ (.inr rfl)
  | some kind =>
   have hlt := (List.getElem?_eq_some_iff.1 hk).1
   have hk8 : kind < 256 := h8 _ (List.mem_of_getElem? hk)
   have htake : takeF b a true 1 = ([kind], a + 1, true) := by
    have e : (b.drop a).take 1 = [kind] := by
     rw [List.getElem?_eq_getElem hlt] at hk
     cases hk
     rw [List.drop_eq_getElem_cons hlt]; rfl
    simp [takeF, e]; omega
   rw [show decide ((a : Int) < (b.length : Int)) = true from decide_eq_true (by omega)]
   refine WR.condT rfl (WR.skip ?_)
   refine WR.block (WR.seq (WR.reg (WQ.runS [] 1 _ _ _ _ rfl ?_)))
   refine WQ.callH rfl rfl rfl rfl rfl (take_spec b a 1 true hlen hal (by omega) (by decide) rfl) (.put .base rfl) rfl ?_
   rw [htake]
   refine WQ.runS [] 1000 _ _ _ _ rfl (WQ.nilS ?_)
   rw [show IntKind.i64.wrap (kind : Int) = (kind : Int) from wrap64 (by omega) (by omega)]
   have close : ∀ (QX2 : X → S → Prop) x w3, (∀ q, QX .ret q → QX2 .ret q) → recF b a kind = some (x, w3) → WR Go.Proofs.Try.prog [] ⟨Go.Proofs.Try.f61.ntmps, none, 61⟩ rc61_J2 (SL.toS ⟨tmT, [], none, nxF s.l, mem (lvF s.l) s.good s.last b (lpS .ready none asC bdC) x.e w3 (rowF s.l), [(4, encR { x with e := 0 })]⟩) (fun s1 => WIr Go.Proofs.Try.prog [] ⟨Go.Proofs.Try.f61.ntmps, none, 61⟩ rc61_L1 s1 QN QX) QX2 := by
    intro QX2 x w3 hq hrec
    obtain ⟨r1, r2, r3, r4⟩ := recF_ok hk h8 hrec
    refine scan_tail ha hb b s x w3 r3 (by omega) (by omega) (fun s' hw hadd => ?_) (fun tm lc hw => ?_) (fun tm lc hw hadd => ?_)
    ·subst hw
     obtain ⟨q1, q2, q3⟩ := addF_le hadd
     refine ih x.e s' (by omega) r2 (by omega) (by omega) ?_
     simp only [scanL, hk, hrec, hadd] at hx
     exact hx
    ·subst hw
     simp only [scanL, hk, hrec] at hx
     exact hq _ (hx _ _ _ (.inl rfl))
    ·subst hw
     simp only [scanL, hk, hrec, hadd] at hx
     exact hq _ (hx _ _ _ (.inl rfl))
   refine WR.seq (WR.seq (WR.reg (WQ.runS [] 1000 _ _ _ _ rfl (WQ.nilS ?_))))
   refine WR.block (WR.seq (WR.reg (WQ.runS [] 1000 _ _ _ _ rfl (WQ.nilS ?_))))
   have t1 := textF_ok b (a + 1) true (by omega) h8
   have t2 := textF_ok b _ (textF b (a + 1) true).2.2 t1.1 h8
   have n1 := numF_ok b (a + 1) true (by omega) h8
   by_cases hk1 : kind = 1
   ·rw [show decide ((kind : Int) = 1) = true from decide_eq_true (by omega)]
    refine WR.condT rfl ?_
    refine WR.seq (WR.reg (WQ.runS [] 1 _ _ _ _ rfl ?_))
    refine WQ.callH rfl rfl rfl rfl rfl (text_spec b (a + 1) true hlen (by omega) h8 (by decide) rfl) (.put .base rfl) rfl ?_
    refine WQ.runS [] 1000 _ _ _ _ rfl (WQ.nilS ?_)
    refine WR.reg (WQ.runS [] 1 _ _ _ _ rfl ?_)
    refine WQ.callH rfl rfl rfl rfl rfl (text_spec b _ _ hlen t1.1 h8 (by decide) rfl) (.put .base rfl) rfl ?_
    refine WQ.runS [] 1000 _ _ _ _ rfl (WQ.nilS ?_)
    refine WR.weak ?_ (close _ ⟨kind, (textF b (a + 1) true).1, (textF b (textF b (a + 1) true).2.1 (textF b (a + 1) true).2.2).1, 0, (textF b (textF b (a + 1) true).2.1 (textF b (a + 1) true).2.2).2.1⟩ (textF b (textF b (a + 1) true).2.1 (textF b (a + 1) true).2.2).2.2 (fun _ h => h) (by simp only [recF, if_pos hk1]))
    refine SW.tellR ?_ ?_
    ·repeat (first | exact .nil | refine .cons rfl (.v (VLe.refl _)) ?_ | refine .cons rfl (.l _ _ rfl) ?_ | refine .cons rfl (.v (VLe.unk _ _)) ?_)
    ·repeat (first | exact .nil | refine .cons rfl (.inl rfl) ?_)
   ·rw [show decide ((kind : Int) = 1) = false from decide_eq_false (by omega)]
    refine WR.condF rfl ?_
    refine WR.seq (WR.seq (WR.reg (WQ.runS [] 1000 _ _ _ _ rfl (WQ.nilS ?_))))
    have num : ∀ tm, kind = 2 ∨ kind = 3 → TellT tm [(4, [.int .i64 kind, .str [], .str [], .int .i64 0, .int .i64 0])] tmT → tg tm 30 = some (.v (.bool true)) → True := fun _ _ _ _ => trivial
    by_cases hk2 : kind = 2
    ·rw [show decide ((kind : Int) = 2) = true from decide_eq_true (by omega)]
     repeat (first | refine WR.seq ?_ | refine WR.block ?_ | refine WR.scope ?_ | refine WR.skip ?_ | refine WR.exit ?_ | refine WR.condT rfl ?_ | refine WR.condF rfl ?_ | refine WR.reg (WQ.runS [] 1000 _ _ _ _ rfl ?_) | refine WQ.nilS ?_ | refine WR.dreg hmix (DW.runS [] 1000 _ _ _ _ _ _ rfl ?_))
     refine WQ.callH rfl rfl rfl rfl rfl (num_spec b (a + 1) true hlen (by omega) h8 (by decide) rfl) (.put .base rfl) rfl ?_
     refine WQ.runS [] 1000 _ _ _ _ rfl (WQ.nilS ?_)
     refine WR.weak ?_ (close _ ⟨kind, [], [], (numF b (a + 1) true).1, (numF b (a + 1) true).2.1⟩ (numF b (a + 1) true).2.2 (fun _ h => h) (by simp only [recF, if_neg hk1, hk2]; rfl))
     refine SW.tellR ?_ ?_
     ·repeat (first | exact .nil | refine .cons rfl (.v (VLe.refl _)) ?_ | refine .cons rfl (.l _ _ rfl) ?_ | refine .cons rfl (.v (VLe.unk _ _)) ?_)
     ·repeat (first | exact .nil | refine .cons rfl (.inl rfl) ?_)
    ·rw [show decide ((kind : Int) = 2) = false from decide_eq_false (by omega)]
     refine WR.condF rfl (WR.reg (WQ.runS [] 1000 _ _ _ _ rfl (WQ.nilS ?_)))
     by_cases hk3 : kind = 3
     ·rw [show decide ((kind : Int) = 3) = true from decide_eq_true (by omega)]
      repeat (first | refine WR.seq ?_ | refine WR.block ?_ | refine WR.scope ?_ | refine WR.skip ?_ | refine WR.exit ?_ | refine WR.condT rfl ?_ | refine WR.condF rfl ?_ | refine WR.reg (WQ.runS [] 1000 _ _ _ _ rfl ?_) | refine WQ.nilS ?_ | refine WR.dreg hmix (DW.runS [] 1000 _ _ _ _ _ _ rfl ?_))
      refine WQ.callH rfl rfl rfl rfl rfl (num_spec b (a + 1) true hlen (by omega) h8 (by decide) rfl) (.put .base rfl) rfl ?_
      refine WQ.runS [] 1000 _ _ _ _ rfl (WQ.nilS ?_)
      refine WR.weak ?_ (close _ ⟨kind, [], [], (numF b (a + 1) true).1, (numF b (a + 1) true).2.1⟩ (numF b (a + 1) true).2.2 (fun _ h => h) (by simp only [recF, if_neg hk1, hk3]; rfl))
      refine SW.tellR ?_ ?_
      ·repeat (first | exact .nil | refine .cons rfl (.v (VLe.refl _)) ?_ | refine .cons rfl (.l _ _ rfl) ?_ | refine .cons rfl (.v (VLe.unk _ _)) ?_)
      ·repeat (first | exact .nil | refine .cons rfl (.inl rfl) ?_)
     ·rw [show decide ((kind : Int) = 3) = false from decide_eq_false (by omega)]
      repeat (first | refine WR.seq ?_ | refine WR.block ?_ | refine WR.scope ?_ | refine WR.skip ?_ | refine WR.exit ?_ | refine WR.condT rfl ?_ | refine WR.condF rfl ?_ | refine WR.reg (WQ.runS [] 1000 _ _ _ _ rfl ?_) | refine WQ.nilS ?_ | refine WR.dreg hmix (DW.runS [] 1000 _ _ _ _ _ _ rfl ?_))
      refine WR.ret ?_
      simp only [scanL, hk, show recF b a kind = none from by simp only [recF, if_neg hk1]; rw [if_neg (by omega)]] at hx
      exact hx _ _ _ (.inl rfl)
end Go.VM
