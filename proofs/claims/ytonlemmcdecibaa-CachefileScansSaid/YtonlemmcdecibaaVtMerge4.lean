/- laid for this seat: VtMerge4 -/
import Derived.Test.YtonlemmcdecibaaVtMerge3
/- Merging in place: carrying down, and the search for the cut. -/
set_option maxRecDepth 100000
set_option linter.unusedVariables false
set_option linter.unusedSimpArgs false
namespace Go.VM
open Go.RowKit
def dnF : Nat → Nat → List Nat → List Nat
 | 0, _, xs => xs
 | m + 1, k, xs => match xs[k]?, xs[k - 1]? with
  | some x, some y => dnF m (k - 1) ((xs.set k y).set (k - 1) x)
  | _, _ => xs
theorem dn_loop {QN : S → Prop} {QX : X → S → Prop} (L : List EZ) (i n : Nat) (hn : n ≤ 4000) : ∀ (m k : Nat) (xs : List Nat), k = i + m → xs.length = n → k < n →
  (∀ tm, QX (.exit 6) (SL.toS ⟨tm, [], none, 1002, sol L (dnF m k xs), []⟩)) →
  WLr Go.Proofs.Try.prog [] ⟨Go.Proofs.Try.f83.ntmps, none, 83⟩ rc83_L4 (SL.toS ⟨[(0, .v (.sl 1001 0 n (.op 1))), (14, .v (.int .i64 i)), (17, .v (.int .i64 k))], [], none, 1002, sol L xs, []⟩) QN QX := by
 have hp : keysLt [(1000, Obj.cells false [V.lst (L.map encZ) .unk])] 1001 := by intro e he; simp at he; subst he; simp
 have hlen2 : ∀ zs : List Nat, zs.length = n → (ints zs).length = n := fun zs hz => by simp [ints, hz]
 intro m
 induction m with
 | zero =>
  intro k xs hk hlen hk4 hx
  unfold rc83_L4
  refine WLr.of ?_
  refine WR.seq (WR.seq (WR.reg (WQ.runS [] 1000 _ _ _ _ rfl (WQ.nilS ?_))))
  rw [show decide ((k : Int) > (i : Int)) = false from decide_eq_false (by omega)]
  repeat (first | refine WR.seq ?_ | refine WR.block ?_ | refine WR.scope ?_ | refine WR.skip ?_ | refine WR.exit ?_ | refine WR.condT rfl ?_ | refine WR.condF rfl ?_ | refine WR.reg (WQ.runS [] 1000 _ _ _ _ rfl ?_) | refine WQ.nilS ?_ | refine WR.dreg hmix (DW.runS [] 1000 _ _ _ _ _ _ rfl ?_))
  exact hx _
 | succ m ih =>
  intro k xs hk hlen hk4 hx
  obtain ⟨x, hx1⟩ : ∃ x, xs[k]? = some x := ⟨_, List.getElem?_eq_getElem (by omega)⟩
  obtain ⟨y, hy⟩ : ∃ y, xs[k - 1]? = some y := ⟨_, List.getElem?_eq_getElem (by omega)⟩
  have hs : dnF (m + 1) k xs = dnF m (k - 1) ((xs.set k y).set (k - 1) x) := by
   show (match xs[k]?, xs[k - 1]? with | some x, some y => dnF m (k - 1) ((xs.set k y).set (k - 1) x) | _, _ => xs) = _
   rw [hx1, hy]
  rw [hs] at hx
  have wk : IntKind.i64.wrap ((k : Int) - 1) = ((k - 1 : Nat) : Int) := by rw [wrap64 (by omega) (by omega)]; omega
  unfold rc83_L4
  refine WLr.of ?_
  refine WR.seq (WR.seq (WR.reg (WQ.runS [] 1000 _ _ _ _ rfl (WQ.nilS ?_))))
  rw [show decide ((k : Int) > (i : Int)) = true from decide_eq_true (by omega)]
  refine WR.condT rfl (WR.skip ?_)
  refine WR.seq (WR.block (WR.dreg hmix2 (DW.runS [] 8 _ _ _ _ _ _ rfl ?_)))
  rw [wk]
  refine DW.pureS rfl (fun h => rowIa rfl rfl (by omega : k - 1 < n)) rfl ?_
  refine DW.lightS rfl (rowLd (p := [(1000, Obj.cells false [V.lst (L.map encZ) .unk])]) (N := 1001) (opn := true) (cs := ints xs) hp rfl (v := .int .i64 y) (by rw [Nat.zero_add, Nat.mul_one]; exact ints_get hy)) rfl (DW.runS [] 2 _ _ _ _ _ _ rfl ?_)
  refine DW.pureS rfl (fun h => rowIa rfl rfl (by omega : k < n)) rfl ?_
  refine DW.lightS rfl (rowLd (p := [(1000, Obj.cells false [V.lst (L.map encZ) .unk])]) (N := 1001) (opn := true) (cs := ints xs) hp rfl (v := .int .i64 x) (by rw [Nat.zero_add, Nat.mul_one]; exact ints_get hx1)) rfl ?_
  refine DW.pureS rfl (fun h => rowIa rfl rfl (by omega : k < n)) rfl ?_
  refine DW.stS (by repeat (first | exact .nil | refine PendR.passM rfl ?_ | refine PendR.sameM rfl ?_ | refine PendR.lightM rfl ?_)) rfl rfl (rowSt (p := [(1000, Obj.cells false [V.lst (L.map encZ) .unk])]) (N := 1001) (opn := true) (cs := ints xs) (cs' := ints (xs.set k y)) hp (by decide) rfl rfl rfl (by rw [Nat.zero_add, Nat.mul_one, hlen2 xs hlen]; omega) (by rw [Nat.zero_add, Nat.mul_one]; exact ints_set xs k y)) rfl ?_
  refine DW.pureS rfl (fun h => rowIa rfl rfl (by omega : k - 1 < n)) rfl ?_
  refine DW.stS (by repeat (first | exact .nil | refine PendR.passM rfl ?_ | refine PendR.sameM rfl ?_ | refine PendR.lightM rfl ?_)) rfl rfl (rowSt (p := [(1000, Obj.cells false [V.lst (L.map encZ) .unk])]) (N := 1001) (opn := true) (cs := ints (xs.set k y)) (cs' := ints ((xs.set k y).set (k - 1) x)) hp (by decide) rfl rfl rfl (by rw [Nat.zero_add, Nat.mul_one, hlen2 _ (by rw [List.length_set]; exact hlen)]; omega) (by rw [Nat.zero_add, Nat.mul_one]; exact ints_set _ (k - 1) x)) rfl ?_
  refine DW.runS [] 1000 _ _ _ _ _ _ rfl ?_
  refine DW.finS (by repeat (first | exact .nil | refine PendR.passM rfl ?_ | refine PendR.sameM rfl ?_ | refine PendR.lightM rfl ?_)) ?_
  unfold rc83_J3
  repeat (first | refine WR.seq ?_ | refine WR.block ?_ | refine WR.scope ?_ | refine WR.skip ?_ | refine WR.exit ?_ | refine WR.condT rfl ?_ | refine WR.condF rfl ?_ | refine WR.reg (WQ.runS [] 1000 _ _ _ _ rfl ?_) | refine WQ.nilS ?_ | refine WR.dreg hmix (DW.runS [] 1000 _ _ _ _ _ _ rfl ?_))
  rw [wk]
  refine WIr.again (WLr.weak ?_ (ih (k - 1) ((xs.set k y).set (k - 1) x) (by omega) (by simp [hlen]) (by omega) hx))
  refine SW.tellR ?_ ?_
  ·repeat (first | exact .nil | refine .cons rfl (.v (VLe.refl _)) ?_ | refine .cons rfl (.l _ _ rfl) ?_ | refine .cons rfl (.v (VLe.unk _ _)) ?_)
  ·repeat (first | exact .nil | refine .cons rfl (.inl rfl) ?_)
def bsH (K : Nat → Int) (p : Nat) (xs : List Nat) : Nat → Nat → Nat → Nat
 | 0, i, _ => i
 | f + 1, i, j => if i < j then
   match xs[(i + j) / 2]?, xs[p - (i + j) / 2]? with
   | some x, some y => if K x < K y then bsH K p xs f i ((i + j) / 2) else bsH K p xs f ((i + j) / 2 + 1) j
   | _, _ => i
  else i
def dTm3 (a m b mid N p i j n : Nat) : TM := [(0, .v (.sl 1001 0 n (.op 1))), (1, .v (.int .i64 a)), (2, .v (.int .i64 m)), (3, .v (.int .i64 b)), (4, .v (.fn (.func 66) [] [.ptr 1000 0])), (18, .v (.int .i64 mid)), (19, .v (.int .i64 N)), (20, .v (.int .i64 i)), (21, .v (.int .i64 j)), (22, .v (.int .i64 p))]
theorem bs3_loop {QN : S → Prop} {QX : X → S → Prop} (L : List EZ) (K : Nat → Int) (a m b mid N p n j0 : Nat) (hn : n ≤ 4000) (hp4 : p ≤ 8000) (hK : ∀ x e, L[x]? = some e → K x = e.last) (xs : List Nat) (hlen : xs.length = n) (hin : ∀ x ∈ xs, x < L.length) (hj0 : j0 ≤ p + 1) (hj1 : j0 ≤ n) : ∀ (f i j : Nat), j - i < f → j ≤ j0 → i ≤ j0 → p < n + i →
  (∀ tm, tg tm 0 = some (.v (.sl 1001 0 n (.op 1))) → tg tm 1 = some (.v (.int .i64 a)) → tg tm 2 = some (.v (.int .i64 m)) → tg tm 3 = some (.v (.int .i64 b)) → tg tm 4 = some (.v (.fn (.func 66) [] [.ptr 1000 0])) → tg tm 18 = some (.v (.int .i64 mid)) → tg tm 19 = some (.v (.int .i64 N)) → tg tm 20 = some (.v (.int .i64 (bsH K p xs f i j))) → QX (.exit 8) (SL.toS ⟨tm, [], none, 1002, sol L xs, []⟩)) →
  WLr Go.Proofs.Try.prog [] ⟨Go.Proofs.Try.f83.ntmps, none, 83⟩ rc83_L5 (SL.toS ⟨dTm3 a m b mid N p i j n, [], none, 1002, sol L xs, []⟩) QN QX := by
 have hp : keysLt [(1000, Obj.cells false [V.lst (L.map encZ) .unk])] 1001 := by intro e he; simp at he; subst he; simp
 intro f
 induction f with
 | zero => intro i j h; omega
 | succ f ih =>
  intro i j hf hj hi hpi hx
  unfold rc83_L5
  refine WLr.of ?_
  refine WR.seq (WR.seq (WR.reg (WQ.runS [] 1000 _ _ _ _ rfl (WQ.nilS ?_))))
  by_cases hij : i < j
  ·obtain ⟨x, hx1⟩ : ∃ x, xs[(i + j) / 2]? = some x := ⟨_, List.getElem?_eq_getElem (by omega)⟩
   obtain ⟨y, hy⟩ : ∃ y, xs[p - (i + j) / 2]? = some y := ⟨_, List.getElem?_eq_getElem (by omega)⟩
   obtain ⟨ex, hex⟩ : ∃ e, L[x]? = some e := ⟨_, List.getElem?_eq_getElem (hin x (List.mem_of_getElem? hx1))⟩
   obtain ⟨ey, hey⟩ : ∃ e, L[y]? = some e := ⟨_, List.getElem?_eq_getElem (hin y (List.mem_of_getElem? hy))⟩
   have kx := hK x ex hex
   have ky := hK y ey hey
   rw [show decide ((i : Int) < (j : Int)) = true from decide_eq_true (by omega)]
   refine WR.condT rfl (WR.skip ?_)
   refine WR.block (WR.seq (WR.reg (WQ.runS [] 1000 _ _ _ _ rfl (WQ.nilS ?_))))
   rw [half (by omega)]
   have hc : cmpF ex.last ey.last < 0 ↔ K x < K y := by
    rw [ky, kx]
    unfold cmpF
    split
    ·omega
    ·split <;> omega
   refine WR.seq (WR.dreg hmix2 (DW.runS [] 5 _ _ _ _ _ _ rfl ?_))
   rw [show IntKind.i64.wrap ((p : Int) - (((i + j) / 2 : Nat) : Int)) = ((p - (i + j) / 2 : Nat) : Int) from by rw [wrap64 (by omega) (by omega)]; omega]
   refine DW.pureS rfl (fun h => rowIa rfl rfl (by omega : p - (i + j) / 2 < n)) rfl ?_
   refine DW.lightS rfl (rowLd (p := [(1000, Obj.cells false [V.lst (L.map encZ) .unk])]) (N := 1001) (opn := true) (cs := ints xs) hp rfl (v := .int .i64 y) (by rw [Nat.zero_add, Nat.mul_one]; exact ints_get hy)) rfl (DW.runS [] 2 _ _ _ _ _ _ rfl ?_)
   refine DW.pureS rfl (fun h => rowIa rfl rfl (by omega : (i + j) / 2 < n)) rfl ?_
   refine DW.lightS rfl (rowLd (p := [(1000, Obj.cells false [V.lst (L.map encZ) .unk])]) (N := 1001) (opn := true) (cs := ints xs) hp rfl (v := .int .i64 x) (by rw [Nat.zero_add, Nat.mul_one]; exact ints_get hx1)) rfl ?_
   refine DW.callH (by repeat (first | exact .nil | refine PendR.passM rfl ?_ | refine PendR.sameM rfl ?_ | refine PendR.lightM rfl ?_)) rfl rfl rfl rfl rfl (less_spec L y x ey ex hey hex (by decide) rfl) .base rfl (DW.runS [] 1000 _ _ _ _ _ _ rfl ?_)
   refine DW.finS (by repeat (first | exact .nil | refine PendR.passM rfl ?_ | refine PendR.sameM rfl ?_ | refine PendR.lightM rfl ?_)) ?_
   by_cases h1 : K x < K y
   ·rw [show decide (cmpF ex.last ey.last < 0) = true from decide_eq_true (hc.2 h1)]
    have hs : bsH K p xs (f + 1) i j = bsH K p xs f i ((i + j) / 2) := by
     simp only [bsH, if_pos hij, hx1, hy, if_pos h1]
    rw [hs] at hx
    repeat (first | refine WR.seq ?_ | refine WR.block ?_ | refine WR.scope ?_ | refine WR.skip ?_ | refine WR.exit ?_ | refine WR.condT rfl ?_ | refine WR.condF rfl ?_ | refine WR.reg (WQ.runS [] 1000 _ _ _ _ rfl ?_) | refine WQ.nilS ?_ | refine WR.dreg hmix (DW.runS [] 1000 _ _ _ _ _ _ rfl ?_))
    refine WIr.again (WLr.weak ?_ (ih i ((i + j) / 2) (by omega) (by omega) hi hpi hx))
    refine SW.tellR ?_ ?_
    ·repeat (first | exact .nil | refine .cons rfl (.v (VLe.refl _)) ?_ | refine .cons rfl (.l _ _ rfl) ?_ | refine .cons rfl (.v (VLe.unk _ _)) ?_)
    ·repeat (first | exact .nil | refine .cons rfl (.inl rfl) ?_)
   ·rw [show decide (cmpF ex.last ey.last < 0) = false from decide_eq_false (fun q => h1 (hc.1 q))]
    have hs : bsH K p xs (f + 1) i j = bsH K p xs f ((i + j) / 2 + 1) j := by
     simp only [bsH, if_pos hij, hx1, hy, if_neg h1]
    rw [hs] at hx
    repeat (first | refine WR.seq ?_ | refine WR.block ?_ | refine WR.scope ?_ | refine WR.skip ?_ | refine WR.exit ?_ | refine WR.condT rfl ?_ | refine WR.condF rfl ?_ | refine WR.reg (WQ.runS [] 1000 _ _ _ _ rfl ?_) | refine WQ.nilS ?_ | refine WR.dreg hmix (DW.runS [] 1000 _ _ _ _ _ _ rfl ?_))
    rw [show IntKind.i64.wrap ((((i + j) / 2 : Nat) : Int) + 1) = (((i + j) / 2 + 1 : Nat) : Int) from by rw [wrap64 (by omega) (by omega)]; rfl]
    refine WIr.again (WLr.weak ?_ (ih ((i + j) / 2 + 1) j (by omega) hj (by omega) (by omega) hx))
    refine SW.tellR ?_ ?_
    ·repeat (first | exact .nil | refine .cons rfl (.v (VLe.refl _)) ?_ | refine .cons rfl (.l _ _ rfl) ?_ | refine .cons rfl (.v (VLe.unk _ _)) ?_)
    ·repeat (first | exact .nil | refine .cons rfl (.inl rfl) ?_)
  ·have hs : bsH K p xs (f + 1) i j = i := by simp only [bsH, if_neg hij]
   rw [hs] at hx
   rw [show decide ((i : Int) < (j : Int)) = false from decide_eq_false (by omega)]
   repeat (first | refine WR.seq ?_ | refine WR.block ?_ | refine WR.scope ?_ | refine WR.skip ?_ | refine WR.exit ?_ | refine WR.condT rfl ?_ | refine WR.condF rfl ?_ | refine WR.reg (WQ.runS [] 1000 _ _ _ _ rfl ?_) | refine WQ.nilS ?_ | refine WR.dreg hmix (DW.runS [] 1000 _ _ _ _ _ _ rfl ?_))
   exact hx _ rfl rfl rfl rfl rfl rfl rfl rfl
end Go.VM
