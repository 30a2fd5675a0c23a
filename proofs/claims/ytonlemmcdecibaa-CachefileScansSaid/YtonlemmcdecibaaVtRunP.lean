/- laid for this seat: VtRunP -/
import Derived.Test.YtonlemmcdecibaaVtKept2
/- The program's Run. -/
set_option maxRecDepth 100000
set_option linter.unusedVariables false
set_option linter.unusedSimpArgs false
namespace Go.VM
open Go.RowKit
def pickF (L : List EZ) (is : List Nat) : List EZ := is.filterMap fun i => L[i]?
theorem pickF_snoc (L : List EZ) (is : List Nat) (i : Nat) (e : EZ) (h : L[i]? = some e) : pickF L (is ++ [i]) = pickF L is ++ [e] := by simp [pickF, List.filterMap_append, h]
theorem pickF_len (L : List EZ) (is : List Nat) : (pickF L is).length ≤ is.length := List.length_filterMap_le _ _
def p1Tm (L : List EZ) (is : List Nat) (out : List EZ) (j : Nat) : TM := [(0, .v (.lst (L.map encZ) .unk)), (6, .v (outV out)), (12, .v (.lst (is.map kcell) .unk)), (13, .v (.int .i64 is.length)), (14, .v (.int .i64 j))]
theorem runP_loop {QN : S → Prop} {QX : X → S → Prop} (L : List EZ) (is : List Nat) (hin : ∀ x ∈ is, x < L.length) (hlen : is.length ≤ 4000) : ∀ (m j : Nat) (out : List EZ), j + m = is.length → out = pickF L (is.take j) →
  (∀ tm, tg tm 6 = some (.v (outV (pickF L is))) → QX (.exit 0) (SL.toS ⟨tm, [], none, nxO (pickF L is), olO (pickF L is), []⟩)) →
  WLr Go.Proofs.Try.prog [] ⟨Go.Proofs.Try.f15.ntmps, none, 15⟩ rc15_L1 (SL.toS ⟨p1Tm L is out j, [], none, nxO out, olO out, []⟩) QN QX := by
 intro m
 induction m with
 | zero =>
  intro j out hj ho hx
  unfold rc15_L1
  refine WLr.of ?_
  refine WR.seq (WR.reg (WQ.runS [] 1000 _ _ _ _ rfl (WQ.nilS ?_)))
  rw [show decide ((j : Int) < (is.length : Int)) = false from decide_eq_false (by omega)]
  refine WR.seq (WR.condF rfl (WR.exit ?_))
  rw [List.take_of_length_le (by omega)] at ho
  rw [← ho] at hx
  exact hx _ rfl
 | succ m ih =>
  intro j out hj ho hx
  have hlt : j < is.length := by omega
  obtain ⟨i, hi⟩ : ∃ i, is[j]? = some i := ⟨_, List.getElem?_eq_getElem hlt⟩
  obtain ⟨e, he⟩ : ∃ e, L[i]? = some e := ⟨_, List.getElem?_eq_getElem (hin i (List.mem_of_getElem? hi))⟩
  have g1 : (L.map encZ)[i]? = some (encZ e) := by rw [List.getElem?_map, he]; rfl
  have g0 : (is.map kcell)[j]? = some (kcell i) := by rw [List.getElem?_map, hi]; rfl
  have hol : out.length ≤ 4000 := by rw [ho]; have := pickF_len L (is.take j); rw [List.length_take] at this; omega
  have ho2 : out ++ [e] = pickF L (is.take (j + 1)) := by
   rw [List.take_add_one, hi, ho]
   exact (pickF_snoc L _ i e he).symm
  unfold rc15_L1
  refine WLr.of ?_
  refine WR.seq (WR.reg (WQ.runS [] 1000 _ _ _ _ rfl (WQ.nilS ?_)))
  rw [show decide ((j : Int) < (is.length : Int)) = true from decide_eq_true (by omega)]
  refine WR.seq (WR.condT rfl (WR.skip ?_))
  refine WR.seq (WR.block (WR.seq (WR.reg ?_)))
  refine WQ.lightS rfl rfl rfl (ia_at rfl rfl g0 rfl) rfl (WQ.runS [] 1000 _ _ _ _ rfl (WQ.nilS ?_))
  refine WR.reg (WQ.runS [] 3 _ _ _ _ rfl ?_)
  refine WQ.lightS rfl rfl rfl (ia_at rfl rfl g1 rfl) rfl (WQ.runS [] 2 _ _ _ _ rfl ?_)
  refine WQ.doesS rfl (outApp out e (by omega) rfl rfl) rfl (WQ.runS [] 1000 _ _ _ _ rfl (WQ.nilS ?_))
  unfold rc15_J1
  repeat (first | refine WR.seq ?_ | refine WR.block ?_ | refine WR.scope ?_ | refine WR.skip ?_ | refine WR.exit ?_ | refine WR.condT rfl ?_ | refine WR.condF rfl ?_ | refine WR.reg (WQ.runS [] 1000 _ _ _ _ rfl ?_) | refine WQ.nilS ?_ | refine WR.dreg hmix (DW.runS [] 1000 _ _ _ _ _ _ rfl ?_))
  rw [show IntKind.i64.wrap ((j : Int) + 1) = ((j + 1 : Nat) : Int) from by rw [wrap64 (by omega) (by omega)]; rfl]
  refine WIr.again (WLr.weak ?_ (ih (j + 1) (out ++ [e]) (by omega) ho2 hx))
  refine SW.tellR ?_ ?_
  ·repeat (first | exact .nil | refine .cons rfl (.v (VLe.refl _)) ?_ | refine .cons rfl (.l _ _ rfl) ?_ | refine .cons rfl (.v (VLe.unk _ _)) ?_)
  ·repeat (first | exact .nil | refine .cons rfl (.inl rfl) ?_)
theorem keptG_in (L : List EZ) (most : Int) : ∀ (ys : List Nat) (ks : List (List Nat)) (b : Int) (out : List Nat), (keptG L most ys ks b out).length ≤ out.length + ys.length ∧ ∀ x ∈ keptG L most ys ks b out, x ∈ out ∨ x ∈ ys
 | [], _, _, out => ⟨by simp [keptG], fun x h => .inl h⟩
 | i :: ys, ks, b, out => by
  unfold keptG
  split
  ·exact ⟨by simp, fun x h => .inl h⟩
  ·rename_i e he
   split
   ·obtain ⟨h1, h2⟩ := keptG_in L most ys ks b out
    exact ⟨by simp; omega, fun x h => (h2 x h).imp id fun h => by simp [h]⟩
   ·split
    ·exact ⟨by simp, fun x h => .inl h⟩
    ·obtain ⟨h1, h2⟩ := keptG_in L most ys (ks ++ [e.k]) (b - sizeZ e) (out ++ [i])
     refine ⟨by simp only [List.length_append, List.length_cons, List.length_nil] at h1 ⊢; omega, fun x h => ?_⟩
     rcases h2 x h with h | h
     ·rcases List.mem_append.1 h with h | h
      ·exact .inl h
      ·exact .inr (by simp at h; simp [h])
     ·exact .inr (by simp [h])
theorem keptF_len (L : List EZ) (most bytes : Int) : (keptF L most bytes).length ≤ L.length := by
 have h := (keptG_in L most (orderF L) [] bytes []).1
 have g := (order_good L).1
 have k := liveF_len L 0
 simp only [List.length_nil, Nat.zero_add] at h
 unfold keptF; omega
theorem keptF_mem {L : List EZ} {most bytes : Int} {x : Nat} (h : x ∈ keptF L most bytes) : x < L.length := by
 rcases (keptG_in L most (orderF L) [] bytes []).2 x h with h | h
 ·cases h
 ·exact (order_good L).2 x h
def runP (L : List EZ) (most bytes : Int) : List EZ := pickF L (keptF L most bytes)
theorem runP_spec (L : List EZ) (most bytes : Int) (hL : L.length ≤ 4000) (hsz : ∀ e ∈ L, sizeZ e ≤ 1000000000) (hb1 : -9223372036854775808 ≤ bytes) (hb2 : bytes < 9223372036854775808) (h : H) :
  SCall Go.Proofs.Try.prog [] 15 [.lst (L.map encZ) .unk, .int .i64 most, .int .i64 bytes] none h (.ret (.lst ((runP L most bytes).map encZ) .unk)) none h := by
 refine SCall.pure0 rfl ?_ (by exact ⟨⟨encZs_in L, trivial⟩, trivial, trivial, trivial⟩) (by exact ⟨encZs_in _, trivial⟩) h
 refine SCall.listed (fn := Go.Proofs.Try.f15) (by kernel_rfl) res15 (by kernel_rfl) (by kernel_rfl) (Nat.le_refl _) rfl (trivial) (by exact ⟨encZs_in _, trivial⟩) ?_
 unfold rc15
 refine WR.seq (WR.reg (WQ.runS [] 1000 _ _ _ _ rfl (WQ.nilS ?_)))
 refine WR.seq (WR.seq (WR.reg (WQ.runS [] 3 _ _ _ _ rfl ?_)))
 refine WQ.callH rfl rfl rfl rfl rfl (kept_spec L most bytes hL hsz hb1 hb2 _) .base rfl (WQ.runS [] 1000 _ _ _ _ rfl (WQ.nilS ?_))
 refine WR.block (WR.loop (WLr.weak (s := SL.toS ⟨p1Tm L (keptF L most bytes) [] 0, [], none, nxO [], olO [], []⟩) ?_ (runP_loop L (keptF L most bytes) (fun x h => keptF_mem h) (by have := keptF_len L most bytes; omega) (keptF L most bytes).length 0 [] (by omega) (by simp [pickF]) (fun tm h6 => ?_))))
 ·rw [List.length_map]
  refine SW.tellR ?_ ?_
  ·repeat (first | exact .nil | refine .cons rfl (.v (VLe.refl _)) ?_ | refine .cons rfl (.l _ _ rfl) ?_ | refine .cons rfl (.v (VLe.unk _ _)) ?_)
  ·repeat (first | exact .nil | refine .cons rfl (.inl rfl) ?_)
 refine WR.weak (s := SL.toS ⟨[(6, .v (outV (runP L most bytes)))], [], none, nxO (runP L most bytes), olO (runP L most bytes), []⟩) (SW.tellR (.cons h6 (.v (VLe.refl _)) .nil) .nil) ?_
 unfold rc15_J2
 repeat (first | refine WR.seq ?_ | refine WR.block ?_ | refine WR.scope ?_ | refine WR.skip ?_ | refine WR.exit ?_ | refine WR.condT rfl ?_ | refine WR.condF rfl ?_ | refine WR.reg (WQ.runS [] 1000 _ _ _ _ rfl ?_) | refine WQ.nilS ?_ | refine WR.dreg hmix (DW.runS [] 1000 _ _ _ _ _ _ rfl ?_))
 refine WR.ret ⟨rfl, rfl, ⟨_, rfl, outV_le _⟩, fun b hb => olO_low _ b hb⟩
end Go.VM
