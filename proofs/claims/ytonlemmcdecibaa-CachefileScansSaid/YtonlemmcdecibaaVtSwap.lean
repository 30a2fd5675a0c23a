/- laid for this seat: VtSwap -/
import Derived.Test.YtonlemmcdecibaaVtIns
/- Ranges that are swapped. -/
set_option maxRecDepth 100000
set_option linter.unusedVariables false
set_option linter.unusedSimpArgs false
namespace Go.VM
open Go.RowKit
def swG (a b : Nat) : Nat → Nat → List Nat → List Nat
 | 0, _, xs => xs
 | m + 1, i, xs => match xs[a + i]?, xs[b + i]? with
  | some x, some y => swG a b m (i + 1) ((xs.set (a + i) y).set (b + i) x)
  | _, _ => xs
theorem swG_len (a b : Nat) : ∀ (m i : Nat) (xs : List Nat), (swG a b m i xs).length = xs.length
 | 0, i, xs => rfl
 | m + 1, i, xs => by
  unfold swG
  split
  ·rw [swG_len a b m]; simp
  ·rfl
theorem swG_mem (a b : Nat) : ∀ (m i : Nat) (xs : List Nat) (z : Nat), z ∈ swG a b m i xs → z ∈ xs
 | 0, i, xs, z, h => h
 | m + 1, i, xs, z, h => by
  unfold swG at h
  split at h
  ·rename_i x y hx hy
   have := swG_mem a b m (i + 1) _ z h
   rcases List.mem_or_eq_of_mem_set this with g | g
   ·rcases List.mem_or_eq_of_mem_set g with g | g
    ·exact g
    ·rw [g]; exact List.mem_of_getElem? hy
   ·rw [g]; exact List.mem_of_getElem? hx
  ·exact h
def wTm (a b k i n : Nat) : TM := [(0, .v (.sl 1001 0 n (.op 1))), (1, .v (.int .i64 a)), (2, .v (.int .i64 b)), (3, .v (.int .i64 k)), (10, .v (.int .i64 i))]
theorem swap_loop {QN : S → Prop} {QX : X → S → Prop} (L : List EZ) (a b k n : Nat) (hn : n ≤ 4000) (ha : a + k ≤ n) (hb : b + k ≤ n) : ∀ (m i : Nat) (xs : List Nat), i + m = k → xs.length = n →
  (∀ tm, QX (.exit 0) (SL.toS ⟨tm, [], none, 1002, sol L (swG a b m i xs), []⟩)) →
  WLr Go.Proofs.Try.prog [] ⟨Go.Proofs.Try.f85.ntmps, none, 85⟩ rc85_L1 (SL.toS ⟨wTm a b k i n, [], none, 1002, sol L xs, []⟩) QN QX := by
 have hp : keysLt [(1000, Obj.cells false [V.lst (L.map encZ) .unk])] 1001 := by intro e he; simp at he; subst he; simp
 have hlen2 : ∀ zs : List Nat, zs.length = n → (ints zs).length = n := fun zs hz => by simp [ints, hz]
 intro m
 induction m with
 | zero =>
  intro i xs hi hlen hx
  unfold rc85_L1
  refine WLr.of ?_
  refine WR.seq (WR.seq (WR.reg (WQ.runS [] 1000 _ _ _ _ rfl (WQ.nilS ?_))))
  rw [show decide ((i : Int) < (k : Int)) = false from decide_eq_false (by omega)]
  repeat (first | refine WR.seq ?_ | refine WR.block ?_ | refine WR.scope ?_ | refine WR.skip ?_ | refine WR.exit ?_ | refine WR.condT rfl ?_ | refine WR.condF rfl ?_ | refine WR.reg (WQ.runS [] 1000 _ _ _ _ rfl ?_) | refine WQ.nilS ?_ | refine WR.dreg hmix (DW.runS [] 1000 _ _ _ _ _ _ rfl ?_))
  exact hx _
 | succ m ih =>
  intro i xs hi hlen hx
  obtain ⟨x, hx1⟩ : ∃ x, xs[a + i]? = some x := ⟨_, List.getElem?_eq_getElem (by omega)⟩
  obtain ⟨y, hy⟩ : ∃ y, xs[b + i]? = some y := ⟨_, List.getElem?_eq_getElem (by omega)⟩
  have hs : swG a b (m + 1) i xs = swG a b m (i + 1) ((xs.set (a + i) y).set (b + i) x) := by
   show (match xs[a + i]?, xs[b + i]? with | some x, some y => swG a b m (i + 1) ((xs.set (a + i) y).set (b + i) x) | _, _ => xs) = _
   rw [hx1, hy]
  rw [hs] at hx
  unfold rc85_L1
  refine WLr.of ?_
  refine WR.seq (WR.seq (WR.reg (WQ.runS [] 1000 _ _ _ _ rfl (WQ.nilS ?_))))
  rw [show decide ((i : Int) < (k : Int)) = true from decide_eq_true (by omega)]
  refine WR.condT rfl (WR.skip ?_)
  refine WR.seq (WR.block (WR.dreg hmix2 (DW.runS [] 12 _ _ _ _ _ _ rfl ?_)))
  rw [show IntKind.i64.wrap ((b : Int) + (i : Int)) = ((b + i : Nat) : Int) from by rw [wrap64 (by omega) (by omega)]; simp, show IntKind.i64.wrap ((a : Int) + (i : Int)) = ((a + i : Nat) : Int) from by rw [wrap64 (by omega) (by omega)]; simp]
  refine DW.pureS rfl (fun h => rowIa rfl rfl (by omega : b + i < n)) rfl ?_
  refine DW.lightS rfl (rowLd (p := [(1000, Obj.cells false [V.lst (L.map encZ) .unk])]) (N := 1001) (opn := true) (cs := ints xs) hp rfl (v := .int .i64 y) (by rw [Nat.zero_add, Nat.mul_one]; exact ints_get hy)) rfl (DW.runS [] 4 _ _ _ _ _ _ rfl ?_)
  rw [show IntKind.i64.wrap ((a : Int) + (i : Int)) = ((a + i : Nat) : Int) from by rw [wrap64 (by omega) (by omega)]; simp]
  refine DW.pureS rfl (fun h => rowIa rfl rfl (by omega : a + i < n)) rfl ?_
  refine DW.lightS rfl (rowLd (p := [(1000, Obj.cells false [V.lst (L.map encZ) .unk])]) (N := 1001) (opn := true) (cs := ints xs) hp rfl (v := .int .i64 x) (by rw [Nat.zero_add, Nat.mul_one]; exact ints_get hx1)) rfl ?_
  refine DW.pureS rfl (fun h => rowIa rfl rfl (by omega : a + i < n)) rfl ?_
  refine DW.stS (by repeat (first | exact .nil | refine PendR.passM rfl ?_ | refine PendR.sameM rfl ?_ | refine PendR.lightM rfl ?_)) rfl rfl (rowSt (p := [(1000, Obj.cells false [V.lst (L.map encZ) .unk])]) (N := 1001) (opn := true) (cs := ints xs) (cs' := ints (xs.set (a + i) y)) hp (by decide) rfl rfl rfl (by rw [Nat.zero_add, Nat.mul_one, hlen2 xs hlen]; omega) (by rw [Nat.zero_add, Nat.mul_one]; exact ints_set xs (a + i) y)) rfl ?_
  refine DW.pureS rfl (fun h => rowIa rfl rfl (by omega : b + i < n)) rfl ?_
  refine DW.stS (by repeat (first | exact .nil | refine PendR.passM rfl ?_ | refine PendR.sameM rfl ?_ | refine PendR.lightM rfl ?_)) rfl rfl (rowSt (p := [(1000, Obj.cells false [V.lst (L.map encZ) .unk])]) (N := 1001) (opn := true) (cs := ints (xs.set (a + i) y)) (cs' := ints ((xs.set (a + i) y).set (b + i) x)) hp (by decide) rfl rfl rfl (by rw [Nat.zero_add, Nat.mul_one, hlen2 _ (by rw [List.length_set]; exact hlen)]; omega) (by rw [Nat.zero_add, Nat.mul_one]; exact ints_set _ (b + i) x)) rfl ?_
  refine DW.runS [] 1000 _ _ _ _ _ _ rfl ?_
  refine DW.finS (by repeat (first | exact .nil | refine PendR.passM rfl ?_ | refine PendR.sameM rfl ?_ | refine PendR.lightM rfl ?_)) ?_
  unfold rc85_J1
  repeat (first | refine WR.seq ?_ | refine WR.block ?_ | refine WR.scope ?_ | refine WR.skip ?_ | refine WR.exit ?_ | refine WR.condT rfl ?_ | refine WR.condF rfl ?_ | refine WR.reg (WQ.runS [] 1000 _ _ _ _ rfl ?_) | refine WQ.nilS ?_ | refine WR.dreg hmix (DW.runS [] 1000 _ _ _ _ _ _ rfl ?_))
  rw [show IntKind.i64.wrap ((i : Int) + 1) = ((i + 1 : Nat) : Int) from by rw [wrap64 (by omega) (by omega)]; rfl]
  refine WIr.again (WLr.weak ?_ (ih (i + 1) ((xs.set (a + i) y).set (b + i) x) (by omega) (by simp [hlen]) hx))
  refine SW.tellR ?_ ?_
  ·repeat (first | exact .nil | refine .cons rfl (.v (VLe.refl _)) ?_ | refine .cons rfl (.l _ _ rfl) ?_ | refine .cons rfl (.v (VLe.unk _ _)) ?_)
  ·repeat (first | exact .nil | refine .cons rfl (.inl rfl) ?_)
theorem ints_in {N : Nat} : ∀ zs : List Nat, Ins (· < N) (ints zs)
 | [] => trivial
 | _ :: zs => ⟨trivial, ints_in zs⟩
theorem swap_core (L : List EZ) (a b k n : Nat) (hn : n ≤ 4000) (ha : a + k ≤ n) (hb : b + k ≤ n) (xs : List Nat) (hlen : xs.length = n) :
  SCall Go.Proofs.Try.prog [] 85 [.sl 1001 0 n (.op 1), .int .i64 a, .int .i64 b, .int .i64 k, .fn (.func 66) [] [.ptr 1000 0]] none ⟨1002, og (sol L xs), []⟩ (.ret (.tup [])) none ⟨1002, og (sol L (swG a b k 0 xs)), []⟩ := by
 refine SCall.listed (fn := Go.Proofs.Try.f85) (by kernel_rfl) res85 (by kernel_rfl) (by kernel_rfl) (Nat.le_refl _) rfl ((by exact ⟨⟨⟨encZs_in _, trivial⟩, trivial⟩, ints_in _, trivial⟩)) trivial ?_
 unfold rc85
 refine WR.seq (WR.reg (WQ.runS [] 1000 _ _ _ _ rfl (WQ.nilS ?_)))
 refine WR.block (WR.loop (WLr.weak (s := SL.toS ⟨wTm a b k 0 n, [], none, 1002, sol L xs, []⟩) ?_ (swap_loop L a b k n hn ha hb k 0 xs (by omega) hlen (fun tm => ?_))))
 ·refine SW.tellR ?_ ?_
  ·repeat (first | exact .nil | refine .cons rfl (.v (VLe.refl _)) ?_ | refine .cons rfl (.l _ _ rfl) ?_ | refine .cons rfl (.v (VLe.unk _ _)) ?_)
  ·repeat (first | exact .nil | refine .cons rfl (.inl rfl) ?_)
 ·exact ⟨rfl, rfl, ⟨_, rfl, VLe.refl _⟩, fun b _ => rfl⟩
end Go.VM
