/- laid for this seat: VtCut -/
import Derived.Test.YtonlemmcdecibaaVtScan6
import Derived.Test.YtonlemmcdecibaaVmH
/- CachefileCutBytes: the walk. -/
set_option maxRecDepth 100000
set_option linter.unusedVariables false
set_option linter.unusedSimpArgs false
namespace Go.VM
open Go.RowKit

theorem rem_nat {nt : Nat} {tm : TM} {h : H} {x y : RX} {k : IntKind} {a m : Nat} (hx : rv [] tm x = some (.int k a)) (hy : rv [] tm y = some (.int k ((m + 1 : Nat) : Int))) :
    LightR Go.Proofs.Try.prog [] nt tm h (some (.bin .rem x y)) (.v (.int k ((a % (m + 1) : Nat) : Int))) := by
  refine lightX_sound ?_
  simp only [lightX, rl, hx, hy]
  have : ¬ (((m + 1 : Nat) : Int) = 0) := by omega
  simp only [abin, if_true, if_neg this]
  rfl

def cTm (i : Nat) (L L' : List Ent) : TM := [(5, .v (.bool true)), (6, .v (.lst (L.map encE) .unk)), (8, .v (.lst (L'.map encE) .unk)), (10, .v (.int .i64 i))]

theorem cut_loop {QN : S → Prop} {QX : X → S → Prop} {nx : Nat} (L L' : List Ent) (hL : L'.length ≤ 4000) (hle : ∀ (i : Nat) (e : Ent), L'[i]? = some e → ∃ e', L[i]? = some e' ∧ e.k = e'.k ∧ e.v = e'.v ∧ (e.live = true → e'.live = true) ∧ e.last ≤ e'.last) : ∀ (m i : Nat), i + m = L'.length →
    (∀ tm, tg tm 5 = some (.v (.bool true)) → QX (.exit 0) (SL.toS ⟨tm, [], none, nx, [], []⟩)) →
    WLr Go.Proofs.Try.prog [] ⟨Go.Proofs.Try.f8.ntmps, none, 8⟩ rc8_L1 (SL.toS ⟨cTm i L L', [], none, nx, [], []⟩) QN QX := by
  intro m
  induction m with
  | zero =>
    intro i hi hx
    unfold rc8_L1
    refine WLr.of ?_
    refine WR.seq (WR.seq (WR.reg (WQ.runS [] 1000 _ _ _ _ rfl (WQ.nilS ?_))))
    rw [show decide ((i : Int) < ((L'.map encE).length : Int)) = false from decide_eq_false (by rw [List.length_map]; omega)]
    repeat (first | refine WR.seq ?_ | refine WR.block ?_ | refine WR.scope ?_ | refine WR.skip ?_ | refine WR.exit ?_ | refine WR.condT rfl ?_ | refine WR.condF rfl ?_ | refine WR.reg (WQ.runS [] 1000 _ _ _ _ rfl ?_) | refine WQ.nilS ?_ | refine WR.dreg hmix (DW.runS [] 1000 _ _ _ _ _ _ rfl ?_))
    exact hx _ rfl
  | succ m ih =>
    intro i hi hx
    have hlt : i < L'.length := by omega
    obtain ⟨e, he⟩ : ∃ e, L'[i]? = some e := ⟨_, List.getElem?_eq_getElem hlt⟩
    obtain ⟨e', he', h1, h2, h3, h4⟩ := hle i e he
    have g1 : (L'.map encE)[i]? = some (encE e) := by rw [List.getElem?_map, he]; rfl
    have g2 : (L.map encE)[i]? = some (encE e') := by rw [List.getElem?_map, he']; rfl
    obtain ⟨k, v, lv, la⟩ := e
    obtain ⟨k', v', lv', la'⟩ := e'
    simp only at h1 h2 h3 h4
    subst h1; subst h2
    unfold rc8_L1
    refine WLr.of ?_
    refine WR.seq (WR.seq (WR.reg (WQ.runS [] 1000 _ _ _ _ rfl (WQ.nilS ?_))))
    rw [show decide ((i : Int) < ((L'.map encE).length : Int)) = true from decide_eq_true (by rw [List.length_map]; omega)]
    refine WR.condT rfl (WR.skip ?_)
    refine WR.seq (WR.block (WR.seq (WR.dreg hmix (DW.runS [] 2 _ _ _ _ _ _ rfl ?_))))
    refine DW.pureS rfl (fun h => ia_at rfl rfl g1 rfl) rfl (DW.runS [] 4 _ _ _ _ _ _ rfl ?_)
    refine DW.pureS rfl (fun h => ia_at rfl rfl g2 rfl) rfl (DW.runS [] 4 _ _ _ _ _ _ rfl ?_)
    rw [show decide (k = k) = true from decide_eq_true rfl]
    refine DW.runS [] 2 _ _ _ _ _ _ rfl ?_
    refine DW.pureS rfl (fun h => ia_at rfl rfl g1 rfl) rfl (DW.runS [] 4 _ _ _ _ _ _ rfl ?_)
    refine DW.pureS rfl (fun h => ia_at rfl rfl g2 rfl) rfl (DW.runS [] 5 _ _ _ _ _ _ rfl ?_)
    rw [show decide (v = v) = true from decide_eq_true rfl]
    refine DW.runS [] 2 _ _ _ _ _ _ rfl ?_
    refine DW.pureS rfl (fun h => ia_at rfl rfl g1 rfl) rfl ?_
    have fin : ∀ tm, tg tm 5 = some (.v (.bool true)) → tg tm 6 = some (.v (.lst (L.map encE) .unk)) → tg tm 8 = some (.v (.lst (L'.map encE) .unk)) → tg tm 10 = some (.v (.int .i64 i)) →
        WR Go.Proofs.Try.prog [] ⟨Go.Proofs.Try.f8.ntmps, none, 8⟩ rc8_J1 (SL.toS ⟨tm, [], none, nx, [], []⟩) (fun s1 => WIr Go.Proofs.Try.prog [] ⟨Go.Proofs.Try.f8.ntmps, none, 8⟩ rc8_L1 s1 QN QX) QX := by
      intro tm t5 t6 t8 t10
      refine WR.weak (s := SL.toS ⟨cTm i L L', [], none, nx, [], []⟩) (SW.tellR (.cons t5 (.v (VLe.refl _)) (.cons t6 (.v (VLe.refl _)) (.cons t8 (.v (VLe.refl _)) (.cons t10 (.v (VLe.refl _)) .nil)))) .nil) ?_
      unfold rc8_J1
      repeat (first | refine WR.seq ?_ | refine WR.block ?_ | refine WR.scope ?_ | refine WR.skip ?_ | refine WR.exit ?_ | refine WR.condT rfl ?_ | refine WR.condF rfl ?_ | refine WR.reg (WQ.runS [] 1000 _ _ _ _ rfl ?_) | refine WQ.nilS ?_ | refine WR.dreg hmix (DW.runS [] 1000 _ _ _ _ _ _ rfl ?_))
      rw [show IntKind.i64.wrap ((i : Int) + 1) = ((i + 1 : Nat) : Int) from by rw [wrap64 (by omega) (by omega)]; rfl]
      refine WIr.again (WLr.weak (s := SL.toS ⟨cTm (i + 1) L L', [], none, nx, [], []⟩) ?_ (ih (i + 1) (by omega) hx))
      refine SW.tellR ?_ ?_
      · repeat (first | exact .nil | refine .cons rfl (.v (VLe.refl _)) ?_ | refine .cons rfl (.l _ _ rfl) ?_ | refine .cons rfl (.v (VLe.unk _ _)) ?_)
      · repeat (first | exact .nil | refine .cons rfl (.inl rfl) ?_)
    cases lv with
    | false =>
      refine DW.runS [] 14 _ _ _ _ _ _ rfl ?_
      refine DW.pureS rfl (fun h => ia_at rfl rfl g1 rfl) rfl (DW.runS [] 4 _ _ _ _ _ _ rfl ?_)
      refine DW.pureS rfl (fun h => ia_at rfl rfl g2 rfl) rfl (DW.runS [] 1000 _ _ _ _ _ _ rfl ?_)
      rw [show decide ((la : Int) > (la' : Int)) = false from decide_eq_false (by omega)]
      refine DW.finS (by repeat (first | exact .nil | refine PendR.passM rfl ?_ | refine PendR.sameM rfl ?_ | refine PendR.lightM rfl ?_)) ?_
      refine WR.condF rfl (WR.skip ?_)
      exact fin _ rfl rfl rfl rfl
    | true =>
      have := h3 rfl
      subst this
      refine DW.runS [] 5 _ _ _ _ _ _ rfl ?_
      refine DW.pureS rfl (fun h => ia_at rfl rfl g2 rfl) rfl (DW.runS [] 8 _ _ _ _ _ _ rfl ?_)
      refine DW.pureS rfl (fun h => ia_at rfl rfl g1 rfl) rfl (DW.runS [] 4 _ _ _ _ _ _ rfl ?_)
      refine DW.pureS rfl (fun h => ia_at rfl rfl g2 rfl) rfl (DW.runS [] 1000 _ _ _ _ _ _ rfl ?_)
      rw [show decide ((la : Int) > (la' : Int)) = false from decide_eq_false (by omega)]
      refine DW.finS (by repeat (first | exact .nil | refine PendR.passM rfl ?_ | refine PendR.sameM rfl ?_ | refine PendR.lightM rfl ?_)) ?_
      refine WR.condF rfl (WR.skip ?_)
      exact fin _ rfl rfl rfl rfl

theorem scanL_len (b : List Nat) : ∀ (m a : Nat) (s : Sc), (scanL b m a s).1.l.length ≤ s.l.length + m := by
  intro m
  induction m with
  | zero => intro a s; exact Nat.le_refl _
  | succ m ih =>
    intro a s
    unfold scanL
    split
    · simp only; omega
    · split
      · simp only; omega
      · simp only; omega
      · split
        · simp only; omega
        · rename_i s' hadd
          have := ih (Rec.e ‹_›) s'
          have := (addF_le hadd).1
          omega

theorem scanR_len (b : List Nat) : (scanR b).1.l.length ≤ b.length + 1 := by
  have := scanL_len b (b.length + 1) 0 sc0
  have e : sc0.l.length = 0 := rfl
  show (scanL b (b.length + 1) 0 sc0).1.l.length ≤ b.length + 1
  omega

theorem cut_tail (b : List Nat) (n : Nat) (hlen : b.length ≤ 2000) (h8 : ∀ x ∈ b, x < 256) (hn : n < 9223372036854775808) {ol : OL} (hol : ol = []) :
    WR Go.Proofs.Try.prog [] ⟨Go.Proofs.Try.f8.ntmps, none, 8⟩ rc8_J3 (SL.toS ⟨[(0, .v (.str b)), (1, .v (.int .i64 n)), (5, .v (.bool true))], [], none, 1000, ol, []⟩) (RetS Go.Proofs.Try.prog Go.Proofs.Try.f8 (.bool true) 1000 []) (retX (RetS Go.Proofs.Try.prog Go.Proofs.Try.f8 (.bool true) 1000 [])) := by
  subst hol
  unfold rc8_J3
  have hc : n % (b.length + 1) ≤ b.length := by have := Nat.mod_lt n (show 0 < b.length + 1 by omega); omega
  have h8' : ∀ x ∈ b.take (n % (b.length + 1)), x < 256 := fun x hx => h8 x (List.mem_of_mem_take hx)
  have hcut := scanR_cut b (n % (b.length + 1)) h8
  have hg1 := scanR_good b h8
  have hg2 := scanR_good (b.take (n % (b.length + 1))) h8'
  rw [List.length_take] at hg2
  have hlen2 : (b.take (n % (b.length + 1))).length ≤ 4000 := by rw [List.length_take]; omega
  have hcnt := scanR_len b
  refine WR.seq (WR.reg (WQ.runS [] 1 _ _ _ _ rfl ?_))
  refine WQ.callH rfl rfl rfl rfl rfl (scan_spec b (by omega) h8 _) .base rfl ?_
  refine WQ.runS [] 1000 _ _ _ _ rfl (WQ.nilS ?_)
  refine WR.seq (WR.reg (WQ.runS [] 5 _ _ _ _ rfl ?_))
  rw [show IntKind.i64.wrap ((b.length : Int) + 1) = ((b.length + 1 : Nat) : Int) from by rw [wrap64 (by omega) (by omega)]; rfl]
  refine WQ.lightS rfl rfl rfl (rem_nat (m := b.length) rfl rfl) rfl ?_
  refine WQ.lightS rfl rfl rfl (slc_str0 rfl rfl hc) rfl ?_
  generalize hbc : b.take (n % (b.length + 1)) = b' at *
  generalize hcc : n % (b.length + 1) = c at *
  refine WQ.callH rfl rfl rfl rfl rfl (scan_spec b' hlen2 h8' _) .base rfl ?_
  refine WQ.runS [] 1000 _ _ _ _ rfl (WQ.nilS ?_)
  have hcnt2 := hcut.len
  have hgg := hcut.good
  have hll := hcut.l
  refine WR.weak (s := SL.toS ⟨[(0, .v (.str b)), (1, .v (.int .i64 n)), (5, .v (.bool true)), (6, .v (.lst ((scanR b).1.l.map encE) .unk)), (7, .v (.int .i64 (scanR b).1.good)), (8, .v (.lst ((scanR b').1.l.map encE) .unk)), (9, .v (.int .i64 (scanR b').1.good))], [], none, 1000 + (7 + (scanR b).1.l.length) + (7 + (scanR b').1.l.length), [], []⟩) ?_ ?_
  · refine SW.tellR ?_ ?_
    · repeat (first | exact .nil | refine .cons rfl (.v (VLe.refl _)) ?_ | refine .cons rfl (.l _ _ rfl) ?_ | refine .cons rfl (.v (VLe.unk _ _)) ?_)
    · repeat (first | exact .nil | refine .cons rfl (.inl rfl) ?_)
  generalize 1000 + (7 + (scanR b).1.l.length) + (7 + (scanR b').1.l.length) = nx0
  generalize (scanR b).1.l = L at *
  generalize (scanR b').1.l = L' at *
  generalize (scanR b).1.good = g at *
  generalize (scanR b').1.good = g' at *
  refine WR.seq (WR.seq (WR.reg (WQ.runS [] 3 _ _ _ _ rfl ?_)))
  rw [show decide ((g : Int) < 0) = false from decide_eq_false (by omega)]
  refine WQ.runS [] 6 _ _ _ _ rfl ?_
  rw [show decide ((g : Int) > (b.length : Int)) = false from decide_eq_false (by omega)]
  refine WQ.runS [] 5 _ _ _ _ rfl ?_
  rw [show decide ((g' : Int) > (g : Int)) = false from decide_eq_false (by omega)]
  refine WQ.runS [] 5 _ _ _ _ rfl ?_
  rw [show IntKind.i64.wrap ((b.length : Int) + 1) = ((b.length + 1 : Nat) : Int) from by rw [wrap64 (by omega) (by omega)]; rfl]
  refine WQ.lightS rfl rfl rfl (rem_nat (m := b.length) rfl rfl) rfl ?_
  rw [hcc]
  refine WQ.runS [] 3 _ _ _ _ rfl ?_
  rw [show decide ((g' : Int) > (c : Int)) = false from decide_eq_false (by omega)]
  refine WQ.runS [] 1000 _ _ _ _ rfl (WQ.nilS ?_)
  rw [show decide (((L'.map encE).length : Int) > ((L.map encE).length : Int)) = false from decide_eq_false (by simp only [List.length_map]; omega)]
  refine WR.condF rfl (WR.skip ?_)
  refine WR.seq (WR.seq (WR.reg (WQ.runS [] 1000 _ _ _ _ rfl (WQ.nilS ?_))))
  refine WR.block (WR.loop (WLr.weak (s := SL.toS ⟨cTm 0 L L', [], none, nx0, [], []⟩) ?_ (cut_loop L L' (by omega) hll L'.length 0 (by omega) (fun tm h5 => ?_))))
  · refine SW.tellR ?_ ?_
    · repeat (first | exact .nil | refine .cons rfl (.v (VLe.refl _)) ?_ | refine .cons rfl (.l _ _ rfl) ?_ | refine .cons rfl (.v (VLe.unk _ _)) ?_)
    · repeat (first | exact .nil | refine .cons rfl (.inl rfl) ?_)
  refine WR.weak (s := SL.toS ⟨[(5, .v (.bool true))], [], none, nx0, [], []⟩) (SW.tellR (.cons h5 (.v (VLe.refl _)) .nil) .nil) ?_
  unfold rc8_J2
  repeat (first | refine WR.seq ?_ | refine WR.block ?_ | refine WR.scope ?_ | refine WR.skip ?_ | refine WR.exit ?_ | refine WR.condT rfl ?_ | refine WR.condF rfl ?_ | refine WR.reg (WQ.runS [] 1000 _ _ _ _ rfl ?_) | refine WQ.nilS ?_ | refine WR.dreg hmix (DW.runS [] 1000 _ _ _ _ _ _ rfl ?_))
  refine WR.ret ⟨rfl, rfl, ⟨_, rfl, VLe.refl _⟩, fun b _ => rfl⟩

theorem cut_core (b : List Nat) (n : Int) (hn1 : -9223372036854775808 ≤ n) (hn2 : n < 9223372036854775808) (h8 : ∀ x ∈ b, x < 256) (haw : ∀ h, SCall Go.Proofs.Try.prog [] 11 [] none h (.ret (.bool true)) none h) :
    SCall Go.Proofs.Try.prog [] 8 [.str b, .int .i64 n] none ⟨1000, og [], []⟩ (.ret (.bool true)) none ⟨1000, og [], []⟩ := by
  refine SCall.listed (fn := Go.Proofs.Try.f8) (by kernel_rfl) res8 (by kernel_rfl) (by kernel_rfl) (Nat.le_refl _) rfl (trivial) trivial ?_
  unfold rc8
  repeat (first | refine WR.seq ?_ | refine WR.block ?_ | refine WR.scope ?_ | refine WR.skip ?_ | refine WR.exit ?_ | refine WR.condT rfl ?_ | refine WR.condF rfl ?_ | refine WR.reg (WQ.runS [] 1000 _ _ _ _ rfl ?_) | refine WQ.nilS ?_ | refine WR.dreg hmix (DW.runS [] 1000 _ _ _ _ _ _ rfl ?_))
  refine WQ.callH rfl rfl rfl rfl rfl (haw _) .base rfl (WQ.runS [] 1000 _ _ _ _ rfl (WQ.nilS ?_))
  repeat (first | refine WR.seq ?_ | refine WR.block ?_ | refine WR.scope ?_ | refine WR.skip ?_ | refine WR.exit ?_ | refine WR.condT rfl ?_ | refine WR.condF rfl ?_ | refine WR.reg (WQ.runS [] 1000 _ _ _ _ rfl ?_) | refine WQ.nilS ?_ | refine WR.dreg hmix (DW.runS [] 1000 _ _ _ _ _ _ rfl ?_))
  refine WR.cond rfl (fun h1 => ?_) (fun h1 => ?_)
  · repeat (first | refine WR.seq ?_ | refine WR.block ?_ | refine WR.scope ?_ | refine WR.skip ?_ | refine WR.exit ?_ | refine WR.condT rfl ?_ | refine WR.condF rfl ?_ | refine WR.reg (WQ.runS [] 1000 _ _ _ _ rfl ?_) | refine WQ.nilS ?_ | refine WR.dreg hmix (DW.runS [] 1000 _ _ _ _ _ _ rfl ?_))
    refine WR.ret ⟨rfl, rfl, ⟨_, rfl, VLe.refl _⟩, fun b _ => rfl⟩
  have h1 := of_decide_eq_false h1
  have hlen : b.length ≤ 2000 := by omega
  refine WR.skip ?_
  refine WR.seq (WR.seq (WR.reg (WQ.runS [] 1000 _ _ _ _ rfl (WQ.nilS ?_))))
  rcases n with n | n
  · have hn : n < 9223372036854775808 := by have : (Int.ofNat n) = (n : Int) := rfl; omega
    rw [show decide (Int.ofNat n < 0) = false from decide_eq_false (by have : (Int.ofNat n) = (n : Int) := rfl; omega)]
    refine WR.condF rfl (WR.skip ?_)
    refine WR.weak ?_ (cut_tail b n hlen h8 hn rfl)
    refine SW.tellR ?_ ?_
    · repeat (first | exact .nil | refine .cons rfl (.v (VLe.refl _)) ?_ | refine .cons rfl (.l _ _ rfl) ?_ | refine .cons rfl (.v (VLe.unk _ _)) ?_)
    · repeat (first | exact .nil | refine .cons rfl (.inl rfl) ?_)
  · have e : Int.negSucc n = -((n : Int) + 1) := Int.negSucc_eq n
    have hn : n < 9223372036854775808 := by omega
    rw [show decide (Int.negSucc n < 0) = true from decide_eq_true (by omega)]
    refine WR.condT rfl (WR.reg (WQ.runS [] 1000 _ _ _ _ rfl (WQ.nilS ?_)))
    rw [show IntKind.i64.wrap (0 - IntKind.i64.wrap (Int.negSucc n + 1)) = (n : Int) from by
      rw [wrap64 (n := Int.negSucc n + 1) (by omega) (by omega), wrap64 (by omega) (by omega)]; omega]
    refine WR.weak ?_ (cut_tail b n hlen h8 hn rfl)
    refine SW.tellR ?_ ?_
    · repeat (first | exact .nil | refine .cons rfl (.v (VLe.refl _)) ?_ | refine .cons rfl (.l _ _ rfl) ?_ | refine .cons rfl (.v (VLe.unk _ _)) ?_)
    · repeat (first | exact .nil | refine .cons rfl (.inl rfl) ?_)
end Go.VM
