/- laid for this seat: VtRunR -/
import Derived.Test.YtonlemmcdecibaaVtSorted
/- The document's Run. -/
set_option maxRecDepth 100000
set_option linter.unusedVariables false
set_option linter.unusedSimpArgs false
namespace Go.VM
open Go.RowKit
def aheadF (all : List EZ) (k : List Nat) (j : Nat) : Bool := (all.take j).any fun x => decide (x.k = k)
def aTm (all : List EZ) (ov : V) (most bytes : Int) (i j : Nat) (q : Bool) : TM := [(1, .v (.int .i64 most)), (2, .v (.int .i64 bytes)), (7, .v (.lst (all.map encZ) .unk)), (8, .v ov), (9, .v (.int .i64 i)), (10, .v (.bool q)), (11, .v (.int .i64 j))]
theorem ahead_loop {QN : S → Prop} {QX : X → S → Prop} {nx : Nat} {ol : OL} (all : List EZ) (ov : V) (most bytes : Int) (i : Nat) (e : EZ) (he : all[i]? = some e) (hi : all.length ≤ 4000) (hov : ov.isCell = true)
  (hx : ∀ tm, tg tm 1 = some (.v (.int .i64 most)) → tg tm 2 = some (.v (.int .i64 bytes)) → tg tm 7 = some (.v (.lst (all.map encZ) .unk)) → tg tm 8 = some (.v ov) → tg tm 9 = some (.v (.int .i64 i)) → tg tm 10 = some (.v (.bool (aheadF all e.k i))) → QX (.exit 2) (SL.toS ⟨tm, [], none, nx, ol, []⟩)) :
  ∀ m j, j + m = i → WLr Go.Proofs.Try.prog [] ⟨Go.Proofs.Try.f16.ntmps, none, 16⟩ rc16_L1 (SL.toS ⟨aTm all ov most bytes i j (aheadF all e.k j), [], none, nx, ol, []⟩) QN QX := by
 have hilt := (List.getElem?_eq_some_iff.1 he).1
 have g2 : (all.map encZ)[i]? = some (encZ e) := by rw [List.getElem?_map, he]; rfl
 intro m
 induction m with
 | zero =>
  intro j hj
  have hj : j = i := by omega
  subst hj
  unfold rc16_L1
  refine WLr.of ?_
  refine WR.seq (WR.seq (WR.reg (WQ.runS [] 1000 _ _ _ _ rfl (WQ.nilS ?_))))
  rw [show decide ((j : Int) < (j : Int)) = false from decide_eq_false (by omega)]
  repeat (first | refine WR.seq ?_ | refine WR.block ?_ | refine WR.scope ?_ | refine WR.skip ?_ | refine WR.exit ?_ | refine WR.condT rfl ?_ | refine WR.condF rfl ?_ | refine WR.reg (WQ.runS [] 1000 _ _ _ _ rfl ?_) | refine WQ.nilS ?_ | refine WR.dreg hmix (DW.runS [] 1000 _ _ _ _ _ _ rfl ?_))
  exact hx _ rfl rfl rfl rfl rfl rfl
 | succ m ih =>
  intro j hj
  have hlt : j < all.length := by omega
  have g1 : (all.map encZ)[j]? = some (encZ all[j]) := by simp [hlt]
  have hstep : aheadF all e.k (j + 1) = (aheadF all e.k j || decide (all[j].k = e.k)) := by
   unfold aheadF
   rw [List.take_add_one, List.any_append, List.getElem?_eq_getElem hlt]; simp
  unfold rc16_L1
  refine WLr.of ?_
  refine WR.seq (WR.seq (WR.reg (WQ.runS [] 1000 _ _ _ _ rfl (WQ.nilS ?_))))
  rw [show decide ((j : Int) < (i : Int)) = true from decide_eq_true (by omega)]
  refine WR.condT rfl (WR.skip ?_)
  have fin : ∀ tm, tg tm 1 = some (.v (.int .i64 most)) → tg tm 2 = some (.v (.int .i64 bytes)) → tg tm 7 = some (.v (.lst (all.map encZ) .unk)) → tg tm 8 = some (.v ov) → tg tm 9 = some (.v (.int .i64 i)) → tg tm 10 = some (.v (.bool (aheadF all e.k (j + 1)))) → tg tm 11 = some (.v (.int .i64 j)) →
    WR Go.Proofs.Try.prog [] ⟨Go.Proofs.Try.f16.ntmps, none, 16⟩ rc16_J1 (SL.toS ⟨tm, [], none, nx, ol, []⟩) (fun s1 => WIr Go.Proofs.Try.prog [] ⟨Go.Proofs.Try.f16.ntmps, none, 16⟩ rc16_L1 s1 QN QX) QX := by
   intro tm t1 t2 t7 t8 t9 t10 t11
   refine WR.weak (s := SL.toS ⟨aTm all ov most bytes i j (aheadF all e.k (j + 1)), [], none, nx, ol, []⟩) (SW.tellR (.cons t1 (.v (VLe.refl _)) (.cons t2 (.v (VLe.refl _)) (.cons t7 (.v (VLe.refl _)) (.cons t8 (.v (VLe.refl _)) (.cons t9 (.v (VLe.refl _)) (.cons t10 (.v (VLe.refl _)) (.cons t11 (.v (VLe.refl _)) .nil))))))) .nil) ?_
   unfold rc16_J1
   repeat (first | refine WR.seq ?_ | refine WR.block ?_ | refine WR.scope ?_ | refine WR.skip ?_ | refine WR.exit ?_ | refine WR.condT rfl ?_ | refine WR.condF rfl ?_ | refine WR.reg (WQ.runS [] 1000 _ _ _ _ rfl ?_) | refine WQ.nilS ?_ | refine WR.dreg hmix (DW.runS [] 1000 _ _ _ _ _ _ rfl ?_))
   rw [show IntKind.i64.wrap ((j : Int) + 1) = ((j + 1 : Nat) : Int) from by rw [wrap64 (by omega) (by omega)]; rfl]
   refine WIr.again (WLr.weak ?_ (ih (j + 1) (by omega)))
   refine SW.tellR ?_ ?_
   ·repeat (first | exact .nil | refine .cons rfl (.v (VLe.refl _)) ?_ | refine .cons rfl (.l _ _ rfl) ?_ | refine .cons rfl (.v (VLe.unk _ _)) ?_)
   ·repeat (first | exact .nil | refine .cons rfl (.inl rfl) ?_)
  rw [hstep] at fin
  refine WR.seq (WR.block ?_)
  generalize all[j] = y at *
  cases hq : aheadF all e.k j with
  | true =>
   rw [hq] at fin
   refine WR.dreg hmix2 (DW.runS [] 1000 _ _ _ _ _ _ rfl ?_)
   refine DW.finS (by repeat (first | exact .nil | refine PendR.passM rfl ?_ | refine PendR.sameM rfl ?_ | refine PendR.lightM rfl ?_)) ?_
   exact fin _ rfl rfl rfl rfl rfl rfl rfl
  | false =>
   rw [hq] at fin
   refine WR.dreg hmix2 (DW.runS [] 4 _ _ _ _ _ _ rfl ?_)
   refine DW.pureS rfl (fun h => ia_at rfl rfl g1 rfl) rfl (DW.runS [] 4 _ _ _ _ _ _ rfl ?_)
   refine DW.pureS rfl (fun h => ia_at rfl rfl g2 rfl) rfl (DW.runS [] 1000 _ _ _ _ _ _ rfl ?_)
   refine DW.finS (by repeat (first | exact .nil | refine PendR.passM rfl ?_ | refine PendR.sameM rfl ?_ | refine PendR.lightM rfl ?_)) ?_
   exact fin _ rfl rfl rfl rfl rfl rfl rfl
def sizeZ (e : EZ) : Nat := e.k.length + e.v.length
def runG (most : Int) (all : List EZ) : Nat → Nat → Int → List EZ → List EZ
 | 0, _, _, out => out
 | m + 1, i, bytes, out => match all[i]? with
  | none => out
  | some e => match aheadF all e.k i with
   | true => runG most all m (i + 1) bytes out
   | false => if (out.length : Int) ≥ most ∨ (sizeZ e : Int) > bytes then out else runG most all m (i + 1) (bytes - sizeZ e) (out ++ [e])
def outV : List EZ → V
 | [] => .lst [] (.ex 0)
 | e :: l => .lst ((e :: l).map encZ) (.tk 1000)
def olO : List EZ → OL
 | [] => []
 | e :: l => [(1000, .tok (l.length + 1))]
def nxO : List EZ → Nat
 | [] => 1000
 | _ :: _ => 1001
theorem outV_cell (out : List EZ) : (outV out).isCell = true := by cases out <;> rfl
theorem lenO {nt : Nat} {tm : TM} {h : H} {x : RX} {l : List EZ} (hx : rv [] tm x = some (outV l)) : LightR Go.Proofs.Try.prog [] nt tm h (some (.lenL x)) (.v (.int .i64 l.length)) := by
 refine lightX_sound ?_
 cases l with
 | nil => simp only [lightX, rl, hx]; rfl
 | cons e l => simp only [lightX, rl, hx]; simp [outV]
theorem outApp {nt : Nat} {tm : TM} {x y : RX} {z : List V} {c : LC} {lc : LM} (out : List EZ) (e : EZ) (hl : out.length ≤ 4000) (hx : rv [] tm x = some (outV out)) (hy : rv [] tm y = some (.lst [encZ e] c)) :
  DoesR Go.Proofs.Try.prog [] nt tm ⟨nxO out, og (olO out), lc⟩ (some (.app x y 4 48 z)) (.v (outV (out ++ [e]))) ⟨nxO (out ++ [e]), og (olO (out ++ [e])), lc⟩ := by
 cases out with
 | nil => exact app_exR (k := 0) (n2 := 1) (fs2 := [encZ e]) (es2 := [encZ e]) hx hy (by simp) (fun e h => by cases h) (fun x hx => by simp at hx; subst hx; rfl) (by simp [lim]) rfl rfl rfl rfl
 | cons e0 l =>
  exact app_tkR (id := 1000) (n := l.length + 1) (n2 := (l ++ [e]).length + 1) (fs2 := [encZ e]) (es2 := (e0 :: (l ++ [e])).map encZ) hx hy rfl (by simp) encZ_len (fun x hx => by simp at hx; subst hx; rfl) (by simp [lim] at hl ⊢; omega) rfl (by simp) (by simp) rfl
def gTm (all out : List EZ) (most bytes : Int) (i : Nat) : TM := [(1, .v (.int .i64 most)), (2, .v (.int .i64 bytes)), (7, .v (.lst (all.map encZ) .unk)), (8, .v (outV out)), (9, .v (.int .i64 i))]
theorem runR_loop {QN : S → Prop} {QX : X → S → Prop} (all : List EZ) (most : Int) (hall : all.length ≤ 4000) (hsz : ∀ e ∈ all, sizeZ e ≤ 1000000000) : ∀ (m i : Nat) (bytes : Int) (out : List EZ), i + m = all.length → out.length ≤ i → -9223372036854775808 ≤ bytes → bytes < 9223372036854775808 →
  (∀ tm out', out' = runG most all m i bytes out → tg tm 8 = some (.v (outV out')) → QX (.exit 0) (SL.toS ⟨tm, [], none, nxO out', olO out', []⟩)) →
  (∀ tm out', out' = runG most all m i bytes out → tg tm 6 = some (.v (outV out')) → QX .ret (SL.toS ⟨tm, [], none, nxO out', olO out', []⟩)) →
  WLr Go.Proofs.Try.prog [] ⟨Go.Proofs.Try.f16.ntmps, none, 16⟩ rc16_L2 (SL.toS ⟨gTm all out most bytes i, [], none, nxO out, olO out, []⟩) QN QX := by
 intro m
 induction m with
 | zero =>
  intro i bytes out hi ho hb1 hb2 hx hr
  unfold rc16_L2
  refine WLr.of ?_
  refine WR.seq (WR.seq (WR.reg (WQ.runS [] 1000 _ _ _ _ rfl (WQ.nilS ?_))))
  rw [show decide ((i : Int) < ((all.map encZ).length : Int)) = false from decide_eq_false (by rw [List.length_map]; omega)]
  repeat (first | refine WR.seq ?_ | refine WR.block ?_ | refine WR.scope ?_ | refine WR.skip ?_ | refine WR.exit ?_ | refine WR.condT rfl ?_ | refine WR.condF rfl ?_ | refine WR.reg (WQ.runS [] 1000 _ _ _ _ rfl ?_) | refine WQ.nilS ?_ | refine WR.dreg hmix (DW.runS [] 1000 _ _ _ _ _ _ rfl ?_))
  exact hx _ _ rfl rfl
 | succ m ih =>
  intro i bytes out hi ho hb1 hb2 hx hr
  have hlt : i < all.length := by omega
  obtain ⟨e, he⟩ : ∃ e, all[i]? = some e := ⟨_, List.getElem?_eq_getElem hlt⟩
  have g1 : (all.map encZ)[i]? = some (encZ e) := by rw [List.getElem?_map, he]; rfl
  have hse := hsz e (List.mem_of_getElem? he)
  have hsz1 : e.k.length + e.v.length < 9223372036854775808 := by unfold sizeZ at hse; omega
  unfold rc16_L2
  refine WLr.of ?_
  refine WR.seq (WR.seq (WR.reg (WQ.runS [] 1000 _ _ _ _ rfl (WQ.nilS ?_))))
  rw [show decide ((i : Int) < ((all.map encZ).length : Int)) = true from decide_eq_true (by rw [List.length_map]; omega)]
  refine WR.condT rfl (WR.skip ?_)
  refine WR.seq (WR.block (WR.seq (WR.reg (WQ.runS [] 1000 _ _ _ _ rfl (WQ.nilS ?_)))))
  refine WR.seq (WR.seq (WR.reg (WQ.runS [] 1000 _ _ _ _ rfl (WQ.nilS ?_))))
  refine WR.block (WR.loop (WLr.weak (s := SL.toS ⟨aTm all (outV out) most bytes i 0 (aheadF all e.k 0), [], none, nxO out, olO out, []⟩) ?_ (ahead_loop all (outV out) most bytes i e he hall (outV_cell out) (fun tm t1 t2 t7 t8 t9 t10 => ?_) i 0 (by omega))))
  ·refine SW.tellR ?_ ?_
   ·repeat (first | exact .nil | refine .cons rfl (.v (VLe.refl _)) ?_ | refine .cons rfl (.l _ _ rfl) ?_ | refine .cons rfl (.v (VLe.unk _ _)) ?_)
   ·repeat (first | exact .nil | refine .cons rfl (.inl rfl) ?_)
  refine WR.weak (s := SL.toS ⟨(10, .v (.bool (aheadF all e.k i))) :: gTm all out most bytes i, [], none, nxO out, olO out, []⟩) (SW.tellR (.cons t10 (.v (VLe.refl _)) (.cons t1 (.v (VLe.refl _)) (.cons t2 (.v (VLe.refl _)) (.cons t7 (.v (VLe.refl _)) (.cons t8 (.v (VLe.refl _)) (.cons t9 (.v (VLe.refl _)) .nil)))))) .nil) ?_
  unfold rc16_J2
  refine WR.seq (WR.seq (WR.reg (WQ.runS [] 1000 _ _ _ _ rfl (WQ.nilS ?_))))
  cases hah : aheadF all e.k i with
  | true =>
   simp only [runG, he, hah] at hx hr
   unfold rc16_J3
   repeat (first | refine WR.seq ?_ | refine WR.block ?_ | refine WR.scope ?_ | refine WR.skip ?_ | refine WR.exit ?_ | refine WR.condT rfl ?_ | refine WR.condF rfl ?_ | refine WR.reg (WQ.runS [] 1000 _ _ _ _ rfl ?_) | refine WQ.nilS ?_ | refine WR.dreg hmix (DW.runS [] 1000 _ _ _ _ _ _ rfl ?_))
   rw [show IntKind.i64.wrap ((i : Int) + 1) = ((i + 1 : Nat) : Int) from by rw [wrap64 (by omega) (by omega)]; rfl]
   refine WIr.again (WLr.weak ?_ (ih (i + 1) bytes out (by omega) (by omega) hb1 hb2 hx hr))
   refine SW.tellR ?_ ?_
   ·repeat (first | exact .nil | refine .cons rfl (.v (VLe.refl _)) ?_ | refine .cons rfl (.l _ _ rfl) ?_ | refine .cons rfl (.v (VLe.unk _ _)) ?_)
   ·repeat (first | exact .nil | refine .cons rfl (.inl rfl) ?_)
  | false =>
   refine WR.condF rfl (WR.skip ?_)
   refine WR.seq (WR.seq (WR.reg (WQ.runS [] 1 _ _ _ _ rfl ?_)))
   refine WQ.lightS rfl rfl rfl (lenO (l := out) rfl) rfl (WQ.runS [] 3 _ _ _ _ rfl ?_)
   by_cases hm : (out.length : Int) ≥ most
   ·rw [show decide ((out.length : Int) ≥ most) = true from decide_eq_true hm]
    simp only [runG, he, hah, if_pos (Or.inl hm : (out.length : Int) ≥ most ∨ (sizeZ e : Int) > bytes)] at hr
    refine WQ.runS [] 1000 _ _ _ _ rfl (WQ.nilS ?_)
    repeat (first | refine WR.seq ?_ | refine WR.block ?_ | refine WR.scope ?_ | refine WR.skip ?_ | refine WR.exit ?_ | refine WR.condT rfl ?_ | refine WR.condF rfl ?_ | refine WR.reg (WQ.runS [] 1000 _ _ _ _ rfl ?_) | refine WQ.nilS ?_ | refine WR.dreg hmix (DW.runS [] 1000 _ _ _ _ _ _ rfl ?_))
    exact WR.ret (hr _ _ rfl rfl)
   ·rw [show decide ((out.length : Int) ≥ most) = false from decide_eq_false hm]
    refine WQ.runS [] 2 _ _ _ _ rfl ?_
    refine WQ.lightS rfl rfl rfl (ia_at rfl rfl g1 rfl) rfl (WQ.runS [] 1 _ _ _ _ rfl ?_)
    refine WQ.callH rfl rfl rfl rfl rfl (size_spec e hsz1 _) .base rfl (WQ.runS [] 2 _ _ _ _ rfl ?_)
    by_cases hbb : ((e.k.length + e.v.length : Nat) : Int) > bytes
    ·rw [show decide (((e.k.length + e.v.length : Nat) : Int) > bytes) = true from decide_eq_true hbb]
     simp only [runG, he, hah, if_pos (Or.inr hbb : (out.length : Int) ≥ most ∨ (sizeZ e : Int) > bytes)] at hr
     refine WQ.runS [] 1000 _ _ _ _ rfl (WQ.nilS ?_)
     repeat (first | refine WR.seq ?_ | refine WR.block ?_ | refine WR.scope ?_ | refine WR.skip ?_ | refine WR.exit ?_ | refine WR.condT rfl ?_ | refine WR.condF rfl ?_ | refine WR.reg (WQ.runS [] 1000 _ _ _ _ rfl ?_) | refine WQ.nilS ?_ | refine WR.dreg hmix (DW.runS [] 1000 _ _ _ _ _ _ rfl ?_))
     exact WR.ret (hr _ _ rfl rfl)
    ·rw [show decide (((e.k.length + e.v.length : Nat) : Int) > bytes) = false from decide_eq_false hbb]
     have hno : ¬ ((out.length : Int) ≥ most ∨ (sizeZ e : Int) > bytes) := fun h => h.elim hm hbb
     simp only [runG, he, hah, if_neg hno] at hx hr
     refine WQ.runS [] 1000 _ _ _ _ rfl (WQ.nilS ?_)
     refine WR.condF rfl (WR.skip ?_)
     refine WR.seq (WR.reg (WQ.runS [] 3 _ _ _ _ rfl ?_))
     refine WQ.lightS rfl rfl rfl (ia_at rfl rfl g1 rfl) rfl (WQ.runS [] 1 _ _ _ _ rfl ?_)
     refine WQ.callH rfl rfl rfl rfl rfl (size_spec e hsz1 _) .base rfl (WQ.runS [] 1000 _ _ _ _ rfl (WQ.nilS ?_))
     rw [show IntKind.i64.wrap (bytes - ((e.k.length + e.v.length : Nat) : Int)) = bytes - (sizeZ e : Int) from wrap64 (by omega) (by omega)]
     refine WR.reg (WQ.runS [] 3 _ _ _ _ rfl ?_)
     refine WQ.lightS rfl rfl rfl (ia_at rfl rfl g1 rfl) rfl (WQ.runS [] 2 _ _ _ _ rfl ?_)
     refine WQ.doesS rfl (outApp out e (by omega) rfl rfl) rfl (WQ.runS [] 1000 _ _ _ _ rfl (WQ.nilS ?_))
     unfold rc16_J3
     repeat (first | refine WR.seq ?_ | refine WR.block ?_ | refine WR.scope ?_ | refine WR.skip ?_ | refine WR.exit ?_ | refine WR.condT rfl ?_ | refine WR.condF rfl ?_ | refine WR.reg (WQ.runS [] 1000 _ _ _ _ rfl ?_) | refine WQ.nilS ?_ | refine WR.dreg hmix (DW.runS [] 1000 _ _ _ _ _ _ rfl ?_))
     rw [show IntKind.i64.wrap ((i : Int) + 1) = ((i + 1 : Nat) : Int) from by rw [wrap64 (by omega) (by omega)]; rfl]
     refine WIr.again (WLr.weak ?_ (ih (i + 1) (bytes - sizeZ e) (out ++ [e]) (by omega) (by simp; omega) (by unfold sizeZ; omega) (by unfold sizeZ; omega) hx hr))
     refine SW.tellR ?_ ?_
     ·repeat (first | exact .nil | refine .cons rfl (.v (VLe.refl _)) ?_ | refine .cons rfl (.l _ _ rfl) ?_ | refine .cons rfl (.v (VLe.unk _ _)) ?_)
     ·repeat (first | exact .nil | refine .cons rfl (.inl rfl) ?_)
theorem insF_mem {out : List EZ} {e x : EZ} (h : x ∈ insF out e) : x ∈ out ∨ x = e := by
 unfold insF at h
 simp only [List.mem_append, List.mem_singleton] at h
 rcases h with (h | h) | h
 ·exact .inl (List.mem_of_mem_take h)
 ·exact .inr h
 ·exact .inl (List.mem_of_mem_drop h)
theorem foldl_ok (L : List EZ) : ∀ out : List EZ, (L.foldl stepF out).length ≤ out.length + L.length ∧ ∀ x ∈ L.foldl stepF out, x ∈ out ∨ x ∈ L := by
 induction L with
 | nil => intro out; exact ⟨Nat.le_refl _, fun x hx => .inl hx⟩
 | cons e L ih =>
  intro out
  rw [List.foldl_cons]
  obtain ⟨h1, h2⟩ := ih (stepF out e)
  have hs : (stepF out e).length ≤ out.length + 1 ∧ ∀ x ∈ stepF out e, x ∈ out ∨ x = e := by
   unfold stepF
   split
   ·exact ⟨by rw [insF_len]; omega, fun x hx => insF_mem hx⟩
   ·exact ⟨by omega, fun x hx => .inl hx⟩
  refine ⟨by rw [List.length_cons]; omega, fun x hx => ?_⟩
  rcases h2 x hx with h | h
  ·rcases hs.2 x h with h | h
   ·exact .inl h
   ·exact .inr (by simp [h])
  ·exact .inr (by simp [h])
theorem sortF_len (L : List EZ) : (sortF L).length ≤ L.length := by have := (foldl_ok L []).1; simpa [sortF] using this
theorem sortF_mem {L : List EZ} {x : EZ} (h : x ∈ sortF L) : x ∈ L := by
 rcases (foldl_ok L []).2 x h with h | h
 ·cases h
 ·exact h
def runR (L : List EZ) (most bytes : Int) : List EZ := if most < 0 ∨ bytes < 0 then [] else runG most (sortF L) (sortF L).length 0 bytes []
theorem outV_le (out : List EZ) : VLe (outV out) (.lst (out.map encZ) .unk) := by cases out <;> exact VLe.unk _ _
theorem olO_low (out : List EZ) (b : Nat) (hb : b < 1000) : og [] b = og (olO out) b := by
 cases out with
 | nil => rfl
 | cons e l => simp only [olO, og_cons]; rw [if_neg (by omega)]
theorem runR_ret {tm : TM} {out : List EZ} (h : tg tm 6 = some (.v (outV out))) : retX (RetS Go.Proofs.Try.prog Go.Proofs.Try.f16 (.lst (out.map encZ) .unk) 1000 []) .ret (SL.toS ⟨tm, [], none, nxO out, olO out, []⟩) := by
 refine ⟨rfl, rfl, ⟨[outV out], ?_, ?_⟩, fun b hb => olO_low out b hb⟩
 ·show resV Go.Proofs.Try.prog _ tm [.tmp 6] = _
  simp only [resV, h]
 ·exact outV_le out
theorem runR_spec (L : List EZ) (most bytes : Int) (hL : L.length ≤ 4000) (hsz : ∀ e ∈ L, sizeZ e ≤ 1000000000) (hb2 : bytes < 9223372036854775808) (h : H) :
  SCall Go.Proofs.Try.prog [] 16 [.lst (L.map encZ) .unk, .int .i64 most, .int .i64 bytes] none h (.ret (.lst ((runR L most bytes).map encZ) .unk)) none h := by
 refine SCall.pure0 rfl ?_ (by exact ⟨⟨encZs_in L, trivial⟩, trivial, trivial, trivial⟩) (by exact ⟨encZs_in _, trivial⟩) h
 refine SCall.listed (fn := Go.Proofs.Try.f16) (by kernel_rfl) res16 (by kernel_rfl) (by kernel_rfl) (Nat.le_refl _) rfl (trivial) (by exact ⟨encZs_in _, trivial⟩) ?_
 unfold rc16
 refine WR.seq (WR.reg (WQ.runS [] 1000 _ _ _ _ rfl (WQ.nilS ?_)))
 by_cases hm : most < 0
 ·rw [show runR L most bytes = [] from by unfold runR; rw [if_pos (Or.inl hm)]]
  refine WR.seq (WR.seq (WR.reg (WQ.runS [] 3 _ _ _ _ rfl ?_)))
  rw [show decide (most < 0) = true from decide_eq_true hm]
  refine WQ.runS [] 1000 _ _ _ _ rfl (WQ.nilS ?_)
  repeat (first | refine WR.seq ?_ | refine WR.block ?_ | refine WR.scope ?_ | refine WR.skip ?_ | refine WR.exit ?_ | refine WR.condT rfl ?_ | refine WR.condF rfl ?_ | refine WR.reg (WQ.runS [] 1000 _ _ _ _ rfl ?_) | refine WQ.nilS ?_ | refine WR.dreg hmix (DW.runS [] 1000 _ _ _ _ _ _ rfl ?_))
  exact WR.ret (runR_ret (out := []) rfl)
 refine WR.seq (WR.seq (WR.reg (WQ.runS [] 3 _ _ _ _ rfl ?_)))
 rw [show decide (most < 0) = false from decide_eq_false hm]
 refine WQ.runS [] 2 _ _ _ _ rfl ?_
 by_cases hb : bytes < 0
 ·rw [show runR L most bytes = [] from by unfold runR; rw [if_pos (Or.inr hb)]]
  rw [show decide (bytes < 0) = true from decide_eq_true hb]
  refine WQ.runS [] 1000 _ _ _ _ rfl (WQ.nilS ?_)
  repeat (first | refine WR.seq ?_ | refine WR.block ?_ | refine WR.scope ?_ | refine WR.skip ?_ | refine WR.exit ?_ | refine WR.condT rfl ?_ | refine WR.condF rfl ?_ | refine WR.reg (WQ.runS [] 1000 _ _ _ _ rfl ?_) | refine WQ.nilS ?_ | refine WR.dreg hmix (DW.runS [] 1000 _ _ _ _ _ _ rfl ?_))
  exact WR.ret (runR_ret (out := []) rfl)
 rw [show decide (bytes < 0) = false from decide_eq_false hb]
 refine WQ.runS [] 1000 _ _ _ _ rfl (WQ.nilS ?_)
 refine WR.condF rfl (WR.skip ?_)
 have hR : runR L most bytes = runG most (sortF L) (sortF L).length 0 bytes [] := by unfold runR; rw [if_neg (by omega)]
 rw [hR]
 have hlen := sortF_len L
 refine WR.seq (WR.reg (WQ.runS [] 1 _ _ _ _ rfl ?_))
 refine WQ.callH rfl rfl rfl rfl rfl (sorted_spec L hL _) .base rfl (WQ.runS [] 1000 _ _ _ _ rfl (WQ.nilS ?_))
 refine WR.seq (WR.reg (WQ.runS [] 1000 _ _ _ _ rfl (WQ.nilS ?_)))
 refine WR.seq (WR.seq (WR.reg (WQ.runS [] 1000 _ _ _ _ rfl (WQ.nilS ?_))))
 refine WR.block (WR.loop (WLr.weak (s := SL.toS ⟨gTm (sortF L) [] most bytes 0, [], none, nxO [], olO [], []⟩) ?_ (runR_loop (sortF L) most (by omega) (fun e he => hsz e (sortF_mem he)) (sortF L).length 0 bytes [] (by omega) (Nat.le_refl _) (by omega) hb2 (fun tm out' ho h8 => ?_) (fun tm out' ho h6 => ?_))))
 ·refine SW.tellR ?_ ?_
  ·repeat (first | exact .nil | refine .cons rfl (.v (VLe.refl _)) ?_ | refine .cons rfl (.l _ _ rfl) ?_ | refine .cons rfl (.v (VLe.unk _ _)) ?_)
  ·repeat (first | exact .nil | refine .cons rfl (.inl rfl) ?_)
 ·rw [← ho]
  refine WR.weak (s := SL.toS ⟨[(8, .v (outV out'))], [], none, nxO out', olO out', []⟩) (SW.tellR (.cons h8 (.v (VLe.refl _)) .nil) .nil) ?_
  unfold rc16_J4
  repeat (first | refine WR.seq ?_ | refine WR.block ?_ | refine WR.scope ?_ | refine WR.skip ?_ | refine WR.exit ?_ | refine WR.condT rfl ?_ | refine WR.condF rfl ?_ | refine WR.reg (WQ.runS [] 1000 _ _ _ _ rfl ?_) | refine WQ.nilS ?_ | refine WR.dreg hmix (DW.runS [] 1000 _ _ _ _ _ _ rfl ?_))
  exact WR.ret (runR_ret rfl)
 ·rw [← ho]
  exact runR_ret h6
end Go.VM
