/- laid for this seat: VtMerge -/
import Derived.Test.YtonlemmcdecibaaVtRot
/- Merging in place: the search for a place. -/
set_option maxRecDepth 100000
set_option linter.unusedVariables false
set_option linter.unusedSimpArgs false
namespace Go.VM
open Go.RowKit
theorem half {i j : Nat} (h : i + j < 1000000) : IntKind.i64.wrap ((IntKind.u64.wrap (IntKind.i64.wrap ((i : Int) + (j : Int)))).fdiv (2 ^ min (1 : Int).toNat IntKind.u64.bits)) = (((i + j) / 2 : Nat) : Int) := by
 rw [wrap64 (n := (i : Int) + (j : Int)) (by omega) (by omega)]
 have e : IntKind.u64.wrap ((i : Int) + (j : Int)) = (i : Int) + (j : Int) := by
  simp [IntKind.wrap, IntKind.bits, IntKind.signed]; omega
 rw [e, show min (1 : Int).toNat IntKind.u64.bits = 1 from rfl, show ((2 : Int) ^ 1) = 2 from rfl, Int.fdiv_eq_ediv_of_nonneg _ (by omega)]
 rw [wrap64 (by omega) (by omega)]
 omega
def bsF (K : Nat → Int) (y : Nat) (xs : List Nat) : Nat → Nat → Nat → Nat
 | 0, i, _ => i
 | f + 1, i, j => if i < j then
   match xs[(i + j) / 2]? with
   | some x => if K y < K x then bsF K y xs f ((i + j) / 2 + 1) j else bsF K y xs f i ((i + j) / 2)
   | none => i
  else i
def bTm (a m b i j n : Nat) : TM := [(0, .v (.sl 1001 0 n (.op 1))), (1, .v (.int .i64 a)), (2, .v (.int .i64 m)), (3, .v (.int .i64 b)), (4, .v (.fn (.func 66) [] [.ptr 1000 0])), (10, .v (.int .i64 i)), (11, .v (.int .i64 j))]
theorem bs1_loop {QN : S → Prop} {QX : X → S → Prop} (L : List EZ) (K : Nat → Int) (a m b n : Nat) (hn : n ≤ 4000) (han : a < n) (hK : ∀ x e, L[x]? = some e → K x = e.last) (xs : List Nat) (hlen : xs.length = n) (hin : ∀ x ∈ xs, x < L.length) (y : Nat) (hy : xs[a]? = some y) : ∀ (f i j : Nat), j - i < f → j ≤ n → i ≤ n →
  (∀ tm, tg tm 0 = some (.v (.sl 1001 0 n (.op 1))) → tg tm 1 = some (.v (.int .i64 a)) → tg tm 10 = some (.v (.int .i64 (bsF K y xs f i j))) → QX (.exit 0) (SL.toS ⟨tm, [], none, 1002, sol L xs, []⟩)) →
  WLr Go.Proofs.Try.prog [] ⟨Go.Proofs.Try.f83.ntmps, none, 83⟩ rc83_L1 (SL.toS ⟨bTm a m b i j n, [], none, 1002, sol L xs, []⟩) QN QX := by
 have hp : keysLt [(1000, Obj.cells false [V.lst (L.map encZ) .unk])] 1001 := by intro e he; simp at he; subst he; simp
 obtain ⟨ey, hey⟩ : ∃ e, L[y]? = some e := ⟨_, List.getElem?_eq_getElem (hin y (List.mem_of_getElem? hy))⟩
 have ky := hK y ey hey
 intro f
 induction f with
 | zero => intro i j h; omega
 | succ f ih =>
  intro i j hf hj hi hx
  unfold rc83_L1
  refine WLr.of ?_
  refine WR.seq (WR.seq (WR.reg (WQ.runS [] 1000 _ _ _ _ rfl (WQ.nilS ?_))))
  by_cases hij : i < j
  ·obtain ⟨x, hx1⟩ : ∃ x, xs[(i + j) / 2]? = some x := ⟨_, List.getElem?_eq_getElem (by omega)⟩
   obtain ⟨ex, hex⟩ : ∃ e, L[x]? = some e := ⟨_, List.getElem?_eq_getElem (hin x (List.mem_of_getElem? hx1))⟩
   have kx := hK x ex hex
   rw [show decide ((i : Int) < (j : Int)) = true from decide_eq_true (by omega)]
   refine WR.condT rfl (WR.skip ?_)
   refine WR.block (WR.seq (WR.reg (WQ.runS [] 1000 _ _ _ _ rfl (WQ.nilS ?_))))
   rw [half (by omega)]
   have hc : cmpF ey.last ex.last < 0 ↔ K y < K x := by
    rw [ky, kx]
    unfold cmpF
    split
    ·omega
    ·split <;> omega
   refine WR.seq (WR.dreg hmix2 (DW.runS [] 3 _ _ _ _ _ _ rfl ?_))
   refine DW.pureS rfl (fun h => rowIa rfl rfl (by omega : (i + j) / 2 < n)) rfl ?_
   refine DW.lightS rfl (rowLd (p := [(1000, Obj.cells false [V.lst (L.map encZ) .unk])]) (N := 1001) (opn := true) (cs := ints xs) hp rfl (v := .int .i64 x) (by rw [Nat.zero_add, Nat.mul_one]; exact ints_get hx1)) rfl (DW.runS [] 2 _ _ _ _ _ _ rfl ?_)
   refine DW.pureS rfl (fun h => rowIa rfl rfl han) rfl ?_
   refine DW.lightS rfl (rowLd (p := [(1000, Obj.cells false [V.lst (L.map encZ) .unk])]) (N := 1001) (opn := true) (cs := ints xs) hp rfl (v := .int .i64 y) (by rw [Nat.zero_add, Nat.mul_one]; exact ints_get hy)) rfl ?_
   refine DW.callH (by repeat (first | exact .nil | refine PendR.passM rfl ?_ | refine PendR.sameM rfl ?_ | refine PendR.lightM rfl ?_)) rfl rfl rfl rfl rfl (less_spec L x y ex ey hex hey (by decide) rfl) .base rfl (DW.runS [] 1000 _ _ _ _ _ _ rfl ?_)
   refine DW.finS (by repeat (first | exact .nil | refine PendR.passM rfl ?_ | refine PendR.sameM rfl ?_ | refine PendR.lightM rfl ?_)) ?_
   refine WR.cond rfl (fun h1 => ?_) (fun h1 => ?_)
   ·have h1 := hc.1 (of_decide_eq_true h1)
    have hs : bsF K y xs (f + 1) i j = bsF K y xs f ((i + j) / 2 + 1) j := by
     simp only [bsF, if_pos hij, hx1, if_pos h1]
    rw [hs] at hx
    repeat (first | refine WR.seq ?_ | refine WR.block ?_ | refine WR.scope ?_ | refine WR.skip ?_ | refine WR.exit ?_ | refine WR.condT rfl ?_ | refine WR.condF rfl ?_ | refine WR.reg (WQ.runS [] 1000 _ _ _ _ rfl ?_) | refine WQ.nilS ?_ | refine WR.dreg hmix (DW.runS [] 1000 _ _ _ _ _ _ rfl ?_))
    rw [show IntKind.i64.wrap ((((i + j) / 2 : Nat) : Int) + 1) = (((i + j) / 2 + 1 : Nat) : Int) from by rw [wrap64 (by omega) (by omega)]; rfl]
    refine WIr.again (WLr.weak ?_ (ih ((i + j) / 2 + 1) j (by omega) hj (by omega) hx))
    refine SW.tellR ?_ ?_
    ·repeat (first | exact .nil | refine .cons rfl (.v (VLe.refl _)) ?_ | refine .cons rfl (.l _ _ rfl) ?_ | refine .cons rfl (.v (VLe.unk _ _)) ?_)
    ·repeat (first | exact .nil | refine .cons rfl (.inl rfl) ?_)
   ·have h1 : ¬ K y < K x := fun q => of_decide_eq_false h1 (hc.2 q)
    have hs : bsF K y xs (f + 1) i j = bsF K y xs f i ((i + j) / 2) := by
     simp only [bsF, if_pos hij, hx1, if_neg h1]
    rw [hs] at hx
    repeat (first | refine WR.seq ?_ | refine WR.block ?_ | refine WR.scope ?_ | refine WR.skip ?_ | refine WR.exit ?_ | refine WR.condT rfl ?_ | refine WR.condF rfl ?_ | refine WR.reg (WQ.runS [] 1000 _ _ _ _ rfl ?_) | refine WQ.nilS ?_ | refine WR.dreg hmix (DW.runS [] 1000 _ _ _ _ _ _ rfl ?_))
    refine WIr.again (WLr.weak ?_ (ih i ((i + j) / 2) (by omega) (by omega) hi hx))
    refine SW.tellR ?_ ?_
    ·repeat (first | exact .nil | refine .cons rfl (.v (VLe.refl _)) ?_ | refine .cons rfl (.l _ _ rfl) ?_ | refine .cons rfl (.v (VLe.unk _ _)) ?_)
    ·repeat (first | exact .nil | refine .cons rfl (.inl rfl) ?_)
  ·have hs : bsF K y xs (f + 1) i j = i := by simp only [bsF, if_neg hij]
   rw [hs] at hx
   rw [show decide ((i : Int) < (j : Int)) = false from decide_eq_false (by omega)]
   repeat (first | refine WR.seq ?_ | refine WR.block ?_ | refine WR.scope ?_ | refine WR.skip ?_ | refine WR.exit ?_ | refine WR.condT rfl ?_ | refine WR.condF rfl ?_ | refine WR.reg (WQ.runS [] 1000 _ _ _ _ rfl ?_) | refine WQ.nilS ?_ | refine WR.dreg hmix (DW.runS [] 1000 _ _ _ _ _ _ rfl ?_))
   exact hx _ rfl rfl rfl
def upF : Nat → Nat → List Nat → List Nat
 | 0, _, xs => xs
 | m + 1, k, xs => match xs[k]?, xs[k + 1]? with
  | some x, some y => upF m (k + 1) ((xs.set k y).set (k + 1) x)
  | _, _ => xs
theorem up_loop {QN : S → Prop} {QX : X → S → Prop} (L : List EZ) (i n : Nat) (hn : n ≤ 4000) (hi : i ≤ n) (h0 : 0 < i) : ∀ (m k : Nat) (xs : List Nat), k + m + 1 = max (k + 1) i → xs.length = n → k ≤ 4000 →
  (∀ tm, QX (.exit 2) (SL.toS ⟨tm, [], none, 1002, sol L (upF m k xs), []⟩)) →
  WLr Go.Proofs.Try.prog [] ⟨Go.Proofs.Try.f83.ntmps, none, 83⟩ rc83_L2 (SL.toS ⟨[(0, .v (.sl 1001 0 n (.op 1))), (10, .v (.int .i64 i)), (13, .v (.int .i64 k))], [], none, 1002, sol L xs, []⟩) QN QX := by
 have hp : keysLt [(1000, Obj.cells false [V.lst (L.map encZ) .unk])] 1001 := by intro e he; simp at he; subst he; simp
 have hlen2 : ∀ zs : List Nat, zs.length = n → (ints zs).length = n := fun zs hz => by simp [ints, hz]
 intro m
 induction m with
 | zero =>
  intro k xs hk hlen hk4 hx
  unfold rc83_L2
  refine WLr.of ?_
  refine WR.seq (WR.seq (WR.reg (WQ.runS [] 1000 _ _ _ _ rfl (WQ.nilS ?_))))
  rw [show IntKind.i64.wrap ((i : Int) - 1) = (i : Int) - 1 from wrap64 (by omega) (by omega), show decide ((k : Int) < (i : Int) - 1) = false from decide_eq_false (by omega)]
  repeat (first | refine WR.seq ?_ | refine WR.block ?_ | refine WR.scope ?_ | refine WR.skip ?_ | refine WR.exit ?_ | refine WR.condT rfl ?_ | refine WR.condF rfl ?_ | refine WR.reg (WQ.runS [] 1000 _ _ _ _ rfl ?_) | refine WQ.nilS ?_ | refine WR.dreg hmix (DW.runS [] 1000 _ _ _ _ _ _ rfl ?_))
  exact hx _
 | succ m ih =>
  intro k xs hk hlen hk4 hx
  obtain ⟨x, hx1⟩ : ∃ x, xs[k]? = some x := ⟨_, List.getElem?_eq_getElem (by omega)⟩
  obtain ⟨y, hy⟩ : ∃ y, xs[k + 1]? = some y := ⟨_, List.getElem?_eq_getElem (by omega)⟩
  have hs : upF (m + 1) k xs = upF m (k + 1) ((xs.set k y).set (k + 1) x) := by
   show (match xs[k]?, xs[k + 1]? with | some x, some y => upF m (k + 1) ((xs.set k y).set (k + 1) x) | _, _ => xs) = _
   rw [hx1, hy]
  rw [hs] at hx
  unfold rc83_L2
  refine WLr.of ?_
  refine WR.seq (WR.seq (WR.reg (WQ.runS [] 1000 _ _ _ _ rfl (WQ.nilS ?_))))
  rw [show IntKind.i64.wrap ((i : Int) - 1) = (i : Int) - 1 from wrap64 (by omega) (by omega), show decide ((k : Int) < (i : Int) - 1) = true from decide_eq_true (by omega)]
  refine WR.condT rfl (WR.skip ?_)
  refine WR.seq (WR.block (WR.dreg hmix2 (DW.runS [] 8 _ _ _ _ _ _ rfl ?_)))
  rw [show IntKind.i64.wrap ((k : Int) + 1) = ((k + 1 : Nat) : Int) from by rw [wrap64 (by omega) (by omega)]; rfl]
  refine DW.pureS rfl (fun h => rowIa rfl rfl (by omega : k + 1 < n)) rfl ?_
  refine DW.lightS rfl (rowLd (p := [(1000, Obj.cells false [V.lst (L.map encZ) .unk])]) (N := 1001) (opn := true) (cs := ints xs) hp rfl (v := .int .i64 y) (by rw [Nat.zero_add, Nat.mul_one]; exact ints_get hy)) rfl (DW.runS [] 2 _ _ _ _ _ _ rfl ?_)
  refine DW.pureS rfl (fun h => rowIa rfl rfl (by omega : k < n)) rfl ?_
  refine DW.lightS rfl (rowLd (p := [(1000, Obj.cells false [V.lst (L.map encZ) .unk])]) (N := 1001) (opn := true) (cs := ints xs) hp rfl (v := .int .i64 x) (by rw [Nat.zero_add, Nat.mul_one]; exact ints_get hx1)) rfl ?_
  refine DW.pureS rfl (fun h => rowIa rfl rfl (by omega : k < n)) rfl ?_
  refine DW.stS (by repeat (first | exact .nil | refine PendR.passM rfl ?_ | refine PendR.sameM rfl ?_ | refine PendR.lightM rfl ?_)) rfl rfl (rowSt (p := [(1000, Obj.cells false [V.lst (L.map encZ) .unk])]) (N := 1001) (opn := true) (cs := ints xs) (cs' := ints (xs.set k y)) hp (by decide) rfl rfl rfl (by rw [Nat.zero_add, Nat.mul_one, hlen2 xs hlen]; omega) (by rw [Nat.zero_add, Nat.mul_one]; exact ints_set xs k y)) rfl ?_
  refine DW.pureS rfl (fun h => rowIa rfl rfl (by omega : k + 1 < n)) rfl ?_
  refine DW.stS (by repeat (first | exact .nil | refine PendR.passM rfl ?_ | refine PendR.sameM rfl ?_ | refine PendR.lightM rfl ?_)) rfl rfl (rowSt (p := [(1000, Obj.cells false [V.lst (L.map encZ) .unk])]) (N := 1001) (opn := true) (cs := ints (xs.set k y)) (cs' := ints ((xs.set k y).set (k + 1) x)) hp (by decide) rfl rfl rfl (by rw [Nat.zero_add, Nat.mul_one, hlen2 _ (by rw [List.length_set]; exact hlen)]; omega) (by rw [Nat.zero_add, Nat.mul_one]; exact ints_set _ (k + 1) x)) rfl ?_
  refine DW.runS [] 1000 _ _ _ _ _ _ rfl ?_
  refine DW.finS (by repeat (first | exact .nil | refine PendR.passM rfl ?_ | refine PendR.sameM rfl ?_ | refine PendR.lightM rfl ?_)) ?_
  unfold rc83_J1
  repeat (first | refine WR.seq ?_ | refine WR.block ?_ | refine WR.scope ?_ | refine WR.skip ?_ | refine WR.exit ?_ | refine WR.condT rfl ?_ | refine WR.condF rfl ?_ | refine WR.reg (WQ.runS [] 1000 _ _ _ _ rfl ?_) | refine WQ.nilS ?_ | refine WR.dreg hmix (DW.runS [] 1000 _ _ _ _ _ _ rfl ?_))
  rw [show IntKind.i64.wrap ((k : Int) + 1) = ((k + 1 : Nat) : Int) from by rw [wrap64 (by omega) (by omega)]; rfl]
  refine WIr.again (WLr.weak ?_ (ih (k + 1) ((xs.set k y).set (k + 1) x) (by omega) (by simp [hlen]) (by omega) hx))
  refine SW.tellR ?_ ?_
  ·repeat (first | exact .nil | refine .cons rfl (.v (VLe.refl _)) ?_ | refine .cons rfl (.l _ _ rfl) ?_ | refine .cons rfl (.v (VLe.unk _ _)) ?_)
  ·repeat (first | exact .nil | refine .cons rfl (.inl rfl) ?_)
end Go.VM
