/- laid for this seat: VtIns -/
import Derived.Test.YtonlemmcdecibaaVtCmp
/- Insertion sort, as the library does it. -/
set_option maxRecDepth 100000
set_option linter.unusedVariables false
set_option linter.unusedSimpArgs false
namespace Go.VM
open Go.RowKit
theorem sinkF_len (K : Nat → Int) (a : Nat) : ∀ (j : Nat) (xs : List Nat), (sinkF K a j xs).length = xs.length
 | 0, xs => rfl
 | j + 1, xs => by
  unfold sinkF
  split
  ·split
   ·rw [sinkF_len K a j]; simp
   ·rfl
  ·rfl
theorem sinkF_mem (K : Nat → Int) (a : Nat) : ∀ (j : Nat) (xs : List Nat) (z : Nat), z ∈ sinkF K a j xs → z ∈ xs
 | 0, xs, z, h => h
 | j + 1, xs, z, h => by
  unfold sinkF at h
  split at h
  ·rename_i y x hy hx
   split at h
   ·have := sinkF_mem K a j _ z h
    rcases List.mem_or_eq_of_mem_set this with g | g
    ·rcases List.mem_or_eq_of_mem_set g with g | g
     ·exact g
     ·rw [g]; exact List.mem_of_getElem? hy
    ·rw [g]; exact List.mem_of_getElem? hx
   ·exact h
  ·exact h
def insG (K : Nat → Int) (a : Nat) : Nat → Nat → List Nat → List Nat
 | 0, _, xs => xs
 | m + 1, i, xs => insG K a m (i + 1) (sinkF K a i xs)
def iTm (a b i n : Nat) : TM := [(0, .v (.sl 1001 0 n (.op 1))), (1, .v (.int .i64 a)), (2, .v (.int .i64 b)), (3, .v (.fn (.func 66) [] [.ptr 1000 0])), (8, .v (.int .i64 i))]
theorem ins_loop {QN : S → Prop} {QX : X → S → Prop} (L : List EZ) (K : Nat → Int) (a b n : Nat) (hn : n ≤ 4000) (hb : b ≤ n) (hK : ∀ x e, L[x]? = some e → K x = e.last) : ∀ (m i : Nat) (xs : List Nat), i + m = max i b → xs.length = n → (∀ x ∈ xs, x < L.length) → i ≤ 5000 →
  (∀ tm, QX (.exit 0) (SL.toS ⟨tm, [], none, 1002, sol L (insG K a m i xs), []⟩)) →
  WLr Go.Proofs.Try.prog [] ⟨Go.Proofs.Try.f82.ntmps, none, 82⟩ rc82_L2 (SL.toS ⟨iTm a b i n, [], none, 1002, sol L xs, []⟩) QN QX := by
 intro m
 induction m with
 | zero =>
  intro i xs hi hlen hin hi5 hx
  unfold rc82_L2
  refine WLr.of ?_
  refine WR.seq (WR.seq (WR.reg (WQ.runS [] 1000 _ _ _ _ rfl (WQ.nilS ?_))))
  rw [show decide ((i : Int) < (b : Int)) = false from decide_eq_false (by omega)]
  repeat (first | refine WR.seq ?_ | refine WR.block ?_ | refine WR.scope ?_ | refine WR.skip ?_ | refine WR.exit ?_ | refine WR.condT rfl ?_ | refine WR.condF rfl ?_ | refine WR.reg (WQ.runS [] 1000 _ _ _ _ rfl ?_) | refine WQ.nilS ?_ | refine WR.dreg hmix (DW.runS [] 1000 _ _ _ _ _ _ rfl ?_))
  exact hx _
 | succ m ih =>
  intro i xs hi hlen hin hi5 hx
  unfold rc82_L2
  refine WLr.of ?_
  refine WR.seq (WR.seq (WR.reg (WQ.runS [] 1000 _ _ _ _ rfl (WQ.nilS ?_))))
  rw [show decide ((i : Int) < (b : Int)) = true from decide_eq_true (by omega)]
  refine WR.condT rfl (WR.skip ?_)
  refine WR.seq (WR.block (WR.seq (WR.reg (WQ.runS [] 1000 _ _ _ _ rfl (WQ.nilS ?_)))))
  refine WR.block (WR.loop (WLr.weak (s := SL.toS ⟨sTm a b i i n, [], none, 1002, sol L xs, []⟩) ?_ (sink_loop L K a b i n hn hK i xs hlen hin (by omega) (fun tm t0 t1 t2 t3 t8 => ?_))))
  ·refine SW.tellR ?_ ?_
   ·repeat (first | exact .nil | refine .cons rfl (.v (VLe.refl _)) ?_ | refine .cons rfl (.l _ _ rfl) ?_ | refine .cons rfl (.v (VLe.unk _ _)) ?_)
   ·repeat (first | exact .nil | refine .cons rfl (.inl rfl) ?_)
  refine WR.weak (s := SL.toS ⟨iTm a b i n, [], none, 1002, sol L (sinkF K a i xs), []⟩) (SW.tellR (.cons t0 (.v (VLe.refl _)) (.cons t1 (.v (VLe.refl _)) (.cons t2 (.v (VLe.refl _)) (.cons t3 (.v (VLe.refl _)) (.cons t8 (.v (VLe.refl _)) .nil))))) .nil) ?_
  unfold rc82_J2
  repeat (first | refine WR.seq ?_ | refine WR.block ?_ | refine WR.scope ?_ | refine WR.skip ?_ | refine WR.exit ?_ | refine WR.condT rfl ?_ | refine WR.condF rfl ?_ | refine WR.reg (WQ.runS [] 1000 _ _ _ _ rfl ?_) | refine WQ.nilS ?_ | refine WR.dreg hmix (DW.runS [] 1000 _ _ _ _ _ _ rfl ?_))
  rw [show IntKind.i64.wrap ((i : Int) + 1) = ((i + 1 : Nat) : Int) from by rw [wrap64 (by omega) (by omega)]; rfl]
  have ih' := ih (i + 1) (sinkF K a i xs) (by omega) (by rw [sinkF_len]; exact hlen) (fun x hx => hin x (sinkF_mem K a i xs x hx)) (by omega) hx
  refine WIr.again (WLr.weak ?_ ih')
  refine SW.tellR ?_ ?_
  ·repeat (first | exact .nil | refine .cons rfl (.v (VLe.refl _)) ?_ | refine .cons rfl (.l _ _ rfl) ?_ | refine .cons rfl (.v (VLe.unk _ _)) ?_)
  ·repeat (first | exact .nil | refine .cons rfl (.inl rfl) ?_)
theorem ins_core (L : List EZ) (K : Nat → Int) (a b n : Nat) (hn : n ≤ 4000) (hb : b ≤ n) (ha : a ≤ 4000) (hK : ∀ x e, L[x]? = some e → K x = e.last) (xs : List Nat) (hlen : xs.length = n) (hin : ∀ x ∈ xs, x < L.length) :
  SCall Go.Proofs.Try.prog [] 82 [.sl 1001 0 n (.op 1), .int .i64 a, .int .i64 b, .fn (.func 66) [] [.ptr 1000 0]] none ⟨1002, og (sol L xs), []⟩ (.ret (.tup [])) none ⟨1002, og (sol L (insG K a (b - (a + 1)) (a + 1) xs)), []⟩ := by
 have hints : ∀ zs : List Nat, Ins (· < 1002) (ints zs) := by
  intro zs
  induction zs with
  | nil => trivial
  | cons z zs ih => exact ⟨trivial, ih⟩
 refine SCall.listed (fn := Go.Proofs.Try.f82) (by kernel_rfl) res82 (by kernel_rfl) (by kernel_rfl) (Nat.le_refl _) rfl ((by exact ⟨⟨⟨encZs_in _, trivial⟩, trivial⟩, hints _, trivial⟩)) trivial ?_
 unfold rc82
 refine WR.seq (WR.reg (WQ.runS [] 1000 _ _ _ _ rfl (WQ.nilS ?_)))
 rw [show IntKind.i64.wrap ((a : Int) + 1) = ((a + 1 : Nat) : Int) from by rw [wrap64 (by omega) (by omega)]; rfl]
 refine WR.block (WR.loop (WLr.weak (s := SL.toS ⟨iTm a b (a + 1) n, [], none, 1002, sol L xs, []⟩) ?_ (ins_loop L K a b n hn hb hK (b - (a + 1)) (a + 1) xs (by omega) hlen hin (by omega) (fun tm => ?_))))
 ·refine SW.tellR ?_ ?_
  ·repeat (first | exact .nil | refine .cons rfl (.v (VLe.refl _)) ?_ | refine .cons rfl (.l _ _ rfl) ?_ | refine .cons rfl (.v (VLe.unk _ _)) ?_)
  ·repeat (first | exact .nil | refine .cons rfl (.inl rfl) ?_)
 ·exact ⟨rfl, rfl, ⟨_, rfl, VLe.refl _⟩, fun b _ => rfl⟩
end Go.VM
