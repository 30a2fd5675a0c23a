/- laid for this seat: VtMerge3 -/
import Derived.Test.YtonlemmcdecibaaVtMerge
/- Merging in place: the other search. -/
set_option maxRecDepth 100000
set_option linter.unusedVariables false
set_option linter.unusedSimpArgs false
namespace Go.VM
open Go.RowKit
def bsG (K : Nat → Int) (y : Nat) (xs : List Nat) : Nat → Nat → Nat → Nat
 | 0, i, _ => i
 | f + 1, i, j => if i < j then
   match xs[(i + j) / 2]? with
   | some x => if K x < K y then bsG K y xs f i ((i + j) / 2) else bsG K y xs f ((i + j) / 2 + 1) j
   | none => i
  else i
def cTm3 (a m b i j n : Nat) : TM := [(0, .v (.sl 1001 0 n (.op 1))), (1, .v (.int .i64 a)), (2, .v (.int .i64 m)), (3, .v (.int .i64 b)), (4, .v (.fn (.func 66) [] [.ptr 1000 0])), (14, .v (.int .i64 i)), (15, .v (.int .i64 j))]
theorem bs2_loop {QN : S → Prop} {QX : X → S → Prop} (L : List EZ) (K : Nat → Int) (a m b n : Nat) (hn : n ≤ 4000) (han : m < n) (hK : ∀ x e, L[x]? = some e → K x = e.last) (xs : List Nat) (hlen : xs.length = n) (hin : ∀ x ∈ xs, x < L.length) (y : Nat) (hy : xs[m]? = some y) : ∀ (f i j : Nat), j - i < f → j ≤ n → i ≤ n →
  (∀ tm, tg tm 0 = some (.v (.sl 1001 0 n (.op 1))) → tg tm 2 = some (.v (.int .i64 m)) → tg tm 14 = some (.v (.int .i64 (bsG K y xs f i j))) → QX (.exit 4) (SL.toS ⟨tm, [], none, 1002, sol L xs, []⟩)) →
  WLr Go.Proofs.Try.prog [] ⟨Go.Proofs.Try.f83.ntmps, none, 83⟩ rc83_L3 (SL.toS ⟨cTm3 a m b i j n, [], none, 1002, sol L xs, []⟩) QN QX := by
 have hp : keysLt [(1000, Obj.cells false [V.lst (L.map encZ) .unk])] 1001 := by intro e he; simp at he; subst he; simp
 obtain ⟨ey, hey⟩ : ∃ e, L[y]? = some e := ⟨_, List.getElem?_eq_getElem (hin y (List.mem_of_getElem? hy))⟩
 have ky := hK y ey hey
 intro f
 induction f with
 | zero => intro i j h; omega
 | succ f ih =>
  intro i j hf hj hi hx
  unfold rc83_L3
  refine WLr.of ?_
  refine WR.seq (WR.seq (WR.reg (WQ.runS [] 1000 _ _ _ _ rfl (WQ.nilS ?_))))
  by_cases hij : i < j
  ·obtain ⟨x, hx1⟩ : ∃ x, xs[(i + j) / 2]? = some x := ⟨_, List.getElem?_eq_getElem (by omega)⟩
   obtain ⟨ex, hex⟩ : ∃ e, L[x]? = some e := ⟨_, List.getElem?_eq_getElem (hin x (List.mem_of_getElem? hx1))⟩
   have kx := hK x ex hex
   rw [show decide ((i : Int) < (j : Int)) = true from decide_eq_true (by omega)]
   refine WR.condT rfl (WR.skip ?_)
   refine WR.block (WR.seq (WR.reg (WQ.runS [] 1000 _ _ _ _ rfl (WQ.nilS ?_))))
   rw [half (by omega)]
   have hc : cmpF ex.last ey.last < 0 ↔ K x < K y := by
    rw [ky, kx]
    unfold cmpF
    split
    ·omega
    ·split <;> omega
   refine WR.seq (WR.dreg hmix2 (DW.runS [] 3 _ _ _ _ _ _ rfl ?_))
   refine DW.pureS rfl (fun h => rowIa rfl rfl han) rfl ?_
   refine DW.lightS rfl (rowLd (p := [(1000, Obj.cells false [V.lst (L.map encZ) .unk])]) (N := 1001) (opn := true) (cs := ints xs) hp rfl (v := .int .i64 y) (by rw [Nat.zero_add, Nat.mul_one]; exact ints_get hy)) rfl (DW.runS [] 2 _ _ _ _ _ _ rfl ?_)
   refine DW.pureS rfl (fun h => rowIa rfl rfl (by omega : (i + j) / 2 < n)) rfl ?_
   refine DW.lightS rfl (rowLd (p := [(1000, Obj.cells false [V.lst (L.map encZ) .unk])]) (N := 1001) (opn := true) (cs := ints xs) hp rfl (v := .int .i64 x) (by rw [Nat.zero_add, Nat.mul_one]; exact ints_get hx1)) rfl ?_
   refine DW.callH (by repeat (first | exact .nil | refine PendR.passM rfl ?_ | refine PendR.sameM rfl ?_ | refine PendR.lightM rfl ?_)) rfl rfl rfl rfl rfl (less_spec L y x ey ex hey hex (by decide) rfl) .base rfl (DW.runS [] 1000 _ _ _ _ _ _ rfl ?_)
   refine DW.finS (by repeat (first | exact .nil | refine PendR.passM rfl ?_ | refine PendR.sameM rfl ?_ | refine PendR.lightM rfl ?_)) ?_
   by_cases h1 : K x < K y
   ·rw [show decide (cmpF ex.last ey.last < 0) = true from decide_eq_true (hc.2 h1)]
    have hs : bsG K y xs (f + 1) i j = bsG K y xs f i ((i + j) / 2) := by
     simp only [bsG, if_pos hij, hx1, if_pos h1]
    rw [hs] at hx
    repeat (first | refine WR.seq ?_ | refine WR.block ?_ | refine WR.scope ?_ | refine WR.skip ?_ | refine WR.exit ?_ | refine WR.condT rfl ?_ | refine WR.condF rfl ?_ | refine WR.reg (WQ.runS [] 1000 _ _ _ _ rfl ?_) | refine WQ.nilS ?_ | refine WR.dreg hmix (DW.runS [] 1000 _ _ _ _ _ _ rfl ?_))
    refine WIr.again (WLr.weak ?_ (ih i ((i + j) / 2) (by omega) (by omega) hi hx))
    refine SW.tellR ?_ ?_
    ·repeat (first | exact .nil | refine .cons rfl (.v (VLe.refl _)) ?_ | refine .cons rfl (.l _ _ rfl) ?_ | refine .cons rfl (.v (VLe.unk _ _)) ?_)
    ·repeat (first | exact .nil | refine .cons rfl (.inl rfl) ?_)
   ·rw [show decide (cmpF ex.last ey.last < 0) = false from decide_eq_false (fun q => h1 (hc.1 q))]
    have hs : bsG K y xs (f + 1) i j = bsG K y xs f ((i + j) / 2 + 1) j := by
     simp only [bsG, if_pos hij, hx1, if_neg h1]
    rw [hs] at hx
    repeat (first | refine WR.seq ?_ | refine WR.block ?_ | refine WR.scope ?_ | refine WR.skip ?_ | refine WR.exit ?_ | refine WR.condT rfl ?_ | refine WR.condF rfl ?_ | refine WR.reg (WQ.runS [] 1000 _ _ _ _ rfl ?_) | refine WQ.nilS ?_ | refine WR.dreg hmix (DW.runS [] 1000 _ _ _ _ _ _ rfl ?_))
    rw [show IntKind.i64.wrap ((((i + j) / 2 : Nat) : Int) + 1) = (((i + j) / 2 + 1 : Nat) : Int) from by rw [wrap64 (by omega) (by omega)]; rfl]
    refine WIr.again (WLr.weak ?_ (ih ((i + j) / 2 + 1) j (by omega) hj (by omega) hx))
    refine SW.tellR ?_ ?_
    ·repeat (first | exact .nil | refine .cons rfl (.v (VLe.refl _)) ?_ | refine .cons rfl (.l _ _ rfl) ?_ | refine .cons rfl (.v (VLe.unk _ _)) ?_)
    ·repeat (first | exact .nil | refine .cons rfl (.inl rfl) ?_)
  ·have hs : bsG K y xs (f + 1) i j = i := by simp only [bsG, if_neg hij]
   rw [hs] at hx
   rw [show decide ((i : Int) < (j : Int)) = false from decide_eq_false (by omega)]
   repeat (first | refine WR.seq ?_ | refine WR.block ?_ | refine WR.scope ?_ | refine WR.skip ?_ | refine WR.exit ?_ | refine WR.condT rfl ?_ | refine WR.condF rfl ?_ | refine WR.reg (WQ.runS [] 1000 _ _ _ _ rfl ?_) | refine WQ.nilS ?_ | refine WR.dreg hmix (DW.runS [] 1000 _ _ _ _ _ _ rfl ?_))
   exact hx _ rfl rfl rfl
end Go.VM
