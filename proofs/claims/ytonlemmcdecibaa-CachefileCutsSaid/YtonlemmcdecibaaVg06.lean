/- laid for this seat: VrRot VrMerge VrMerge3 VrMerge4 -/
import Derived.Test.YtonlemmcdecibaaVg05
section
/- Blocks that change places. -/
set_option maxRecDepth 100000
set_option linter.unusedVariables false
set_option linter.unusedSimpArgs false
namespace Go.VM
open Go.RowKit
def rotL (m : Nat) : Nat → Nat → Nat → List Nat → Nat × List Nat
 | 0, i, _, xs => (i, xs)
 | f + 1, i, j, xs => if i = j then (i, xs) else if i > j then rotL m f (i - j) j (swG (m - i) m j 0 xs) else rotL m f i (j - i) (swG (m - i) (m + j - i) i 0 xs)
def rTm4 (m i j n : Nat) : TM := [(0, .v (.sl 1002 0 n (.op 1))), (2, .v (.int .i64 m)), (4, .v (.fn (.func 66) [] [.ptr 1001 0])), (10, .v (.int .i64 i)), (11, .v (.int .i64 j))]
theorem rot_loop {QN : S → Prop} {QX : X → S → Prop} (L : List EZ) (m n : Nat) (hn : n ≤ 100000) : ∀ (f i j : Nat) (xs : List Nat), i + j ≤ f → 0 < i → 0 < j → i ≤ m → m + j ≤ n → xs.length = n →
  (∀ tm i' xs', (i', xs') = rotL m f i j xs → 0 < i' → i' ≤ m → m + i' ≤ n → xs'.length = n → tg tm 0 = some (.v (.sl 1002 0 n (.op 1))) → tg tm 2 = some (.v (.int .i64 m)) → tg tm 4 = some (.v (.fn (.func 66) [] [.ptr 1001 0])) → tg tm 10 = some (.v (.int .i64 i')) → QX (.exit 0) (SL.toS ⟨tm, [], none, 1003, sol L xs', []⟩)) →
  WLr Go.Proofs.Try.prog [] ⟨Go.Proofs.Try.f84.ntmps, none, 84⟩ rc84_L1 (SL.toS ⟨rTm4 m i j n, [], none, 1003, sol L xs, []⟩) QN QX := by
 intro f
 induction f with
 | zero => intro i j xs h; omega
 | succ f ih =>
  intro i j xs hf hi hj him hmj hlen hx
  unfold rc84_L1
  refine WLr.of ?_
  refine WR.seq (WR.seq (WR.reg (WQ.runS [] 1000 _ _ _ _ rfl (WQ.nilS ?_))))
  by_cases hij : i = j
  ·have hr : rotL m (f + 1) i j xs = (i, xs) := by simp only [rotL, if_pos hij]
   rw [hr] at hx
   rw [show decide ((i : Int) = (j : Int)) = true from decide_eq_true (by omega)]
   repeat (first | refine WR.seq ?_ | refine WR.block ?_ | refine WR.scope ?_ | refine WR.skip ?_ | refine WR.exit ?_ | refine WR.condT rfl ?_ | refine WR.condF rfl ?_ | refine WR.reg (WQ.runS [] 1000 _ _ _ _ rfl ?_) | refine WQ.nilS ?_ | refine WR.dreg hmix (DW.runS [] 1000 _ _ _ _ _ _ rfl ?_))
   exact hx _ i xs rfl hi him (by omega) hlen rfl rfl rfl rfl
  ·rw [show decide ((i : Int) = (j : Int)) = false from decide_eq_false (by omega)]
   refine WR.condT rfl (WR.skip ?_)
   refine WR.block (WR.seq (WR.reg (WQ.runS [] 1000 _ _ _ _ rfl (WQ.nilS ?_))))
   by_cases hgt : i > j
   ·have hr : rotL m (f + 1) i j xs = rotL m f (i - j) j (swG (m - i) m j 0 xs) := by simp only [rotL, if_neg hij, if_pos hgt]
    rw [hr] at hx
    rw [show decide ((i : Int) > (j : Int)) = true from decide_eq_true (by omega)]
    refine WR.condT rfl (WR.seq (WR.reg (WQ.runS [] 7 _ _ _ _ rfl ?_)))
    rw [show IntKind.i64.wrap ((m : Int) - (i : Int)) = ((m - i : Nat) : Int) from by rw [wrap64 (by omega) (by omega)]; omega]
    refine WQ.callH rfl rfl rfl rfl rfl (swap_core L (m - i) m j n hn (by omega) (by omega) xs hlen) .base rfl (WQ.runS [] 1000 _ _ _ _ rfl (WQ.nilS ?_))
    repeat (first | refine WR.seq ?_ | refine WR.block ?_ | refine WR.scope ?_ | refine WR.skip ?_ | refine WR.exit ?_ | refine WR.condT rfl ?_ | refine WR.condF rfl ?_ | refine WR.reg (WQ.runS [] 1000 _ _ _ _ rfl ?_) | refine WQ.nilS ?_ | refine WR.dreg hmix (DW.runS [] 1000 _ _ _ _ _ _ rfl ?_))
    rw [show IntKind.i64.wrap ((i : Int) - (j : Int)) = ((i - j : Nat) : Int) from by rw [wrap64 (by omega) (by omega)]; omega]
    refine WIr.again (WLr.weak ?_ (ih (i - j) j (swG (m - i) m j 0 xs) (by omega) (by omega) hj (by omega) hmj (by rw [swG_len]; exact hlen) hx))
    refine SW.tellR ?_ ?_
    ·repeat (first | exact .nil | refine .cons rfl (.v (VLe.refl _)) ?_ | refine .cons rfl (.l _ _ rfl) ?_ | refine .cons rfl (.v (VLe.unk _ _)) ?_)
    ·repeat (first | exact .nil | refine .cons rfl (.inl rfl) ?_)
   ·have hr : rotL m (f + 1) i j xs = rotL m f i (j - i) (swG (m - i) (m + j - i) i 0 xs) := by simp only [rotL, if_neg hij, if_neg hgt]
    rw [hr] at hx
    rw [show decide ((i : Int) > (j : Int)) = false from decide_eq_false (by omega)]
    refine WR.condF rfl (WR.seq (WR.reg (WQ.runS [] 11 _ _ _ _ rfl ?_)))
    rw [show IntKind.i64.wrap ((m : Int) - (i : Int)) = ((m - i : Nat) : Int) from by rw [wrap64 (by omega) (by omega)]; omega, show IntKind.i64.wrap (IntKind.i64.wrap ((m : Int) + (j : Int)) - (i : Int)) = ((m + j - i : Nat) : Int) from by rw [wrap64 (n := (m : Int) + (j : Int)) (by omega) (by omega), wrap64 (by omega) (by omega)]; omega]
    refine WQ.callH rfl rfl rfl rfl rfl (swap_core L (m - i) (m + j - i) i n hn (by omega) (by omega) xs hlen) .base rfl (WQ.runS [] 1000 _ _ _ _ rfl (WQ.nilS ?_))
    repeat (first | refine WR.seq ?_ | refine WR.block ?_ | refine WR.scope ?_ | refine WR.skip ?_ | refine WR.exit ?_ | refine WR.condT rfl ?_ | refine WR.condF rfl ?_ | refine WR.reg (WQ.runS [] 1000 _ _ _ _ rfl ?_) | refine WQ.nilS ?_ | refine WR.dreg hmix (DW.runS [] 1000 _ _ _ _ _ _ rfl ?_))
    rw [show IntKind.i64.wrap ((j : Int) - (i : Int)) = ((j - i : Nat) : Int) from by rw [wrap64 (by omega) (by omega)]; omega]
    refine WIr.again (WLr.weak ?_ (ih i (j - i) (swG (m - i) (m + j - i) i 0 xs) (by omega) hi (by omega) him (by omega) (by rw [swG_len]; exact hlen) hx))
    refine SW.tellR ?_ ?_
    ·repeat (first | exact .nil | refine .cons rfl (.v (VLe.refl _)) ?_ | refine .cons rfl (.l _ _ rfl) ?_ | refine .cons rfl (.v (VLe.unk _ _)) ?_)
    ·repeat (first | exact .nil | refine .cons rfl (.inl rfl) ?_)
def rotF (a m b : Nat) (xs : List Nat) : List Nat := swG (m - (rotL m (b - a) (m - a) (b - m) xs).1) m (rotL m (b - a) (m - a) (b - m) xs).1 0 (rotL m (b - a) (m - a) (b - m) xs).2
theorem rot_core (L : List EZ) (a m b n : Nat) (hn : n ≤ 100000) (h1 : a < m) (h2 : m < b) (h3 : b ≤ n) (xs : List Nat) (hlen : xs.length = n) :
  SCall Go.Proofs.Try.prog [] 84 [.sl 1002 0 n (.op 1), .int .i64 a, .int .i64 m, .int .i64 b, .fn (.func 66) [] [.ptr 1001 0]] none ⟨1003, og (sol L xs), []⟩ (.ret (.tup [])) none ⟨1003, og (sol L (rotF a m b xs)), []⟩ := by
 refine SCall.listed (fn := Go.Proofs.Try.f84) (by kernel_rfl) res84 (by kernel_rfl) (by kernel_rfl) (Nat.le_refl _) rfl ((by exact ⟨flatZ_in _, ⟨(by show 1000 < 1003; decide), trivial⟩, ints_in _, trivial⟩)) trivial ?_
 unfold rc84
 refine WR.seq (WR.reg (WQ.runS [] 1000 _ _ _ _ rfl (WQ.nilS ?_)))
 refine WR.seq (WR.reg (WQ.runS [] 1000 _ _ _ _ rfl (WQ.nilS ?_)))
 rw [show IntKind.i64.wrap ((m : Int) - (a : Int)) = ((m - a : Nat) : Int) from by rw [wrap64 (by omega) (by omega)]; omega, show IntKind.i64.wrap ((b : Int) - (m : Int)) = ((b - m : Nat) : Int) from by rw [wrap64 (by omega) (by omega)]; omega]
 refine WR.seq (WR.block (WR.loop (WLr.weak (s := SL.toS ⟨rTm4 m (m - a) (b - m) n, [], none, 1003, sol L xs, []⟩) ?_ (rot_loop L m n hn (b - a) (m - a) (b - m) xs (by omega) (by omega) (by omega) (by omega) (by omega) hlen (fun tm i' xs' hr hi him hmi hl' t0 t2 t4 t10 => ?_)))))
 ·refine SW.tellR ?_ ?_
  ·repeat (first | exact .nil | refine .cons rfl (.v (VLe.refl _)) ?_ | refine .cons rfl (.l _ _ rfl) ?_ | refine .cons rfl (.v (VLe.unk _ _)) ?_)
  ·repeat (first | exact .nil | refine .cons rfl (.inl rfl) ?_)
 refine WR.weak (s := SL.toS ⟨[(0, .v (.sl 1002 0 n (.op 1))), (2, .v (.int .i64 m)), (4, .v (.fn (.func 66) [] [.ptr 1001 0])), (10, .v (.int .i64 i'))], [], none, 1003, sol L xs', []⟩) (SW.tellR (.cons t0 (.v (VLe.refl _)) (.cons t2 (.v (VLe.refl _)) (.cons t4 (.v (VLe.refl _)) (.cons t10 (.v (VLe.refl _)) .nil)))) .nil) ?_
 have hF : rotF a m b xs = swG (m - i') m i' 0 xs' := by unfold rotF; rw [← hr]
 rw [hF]
 unfold rc84_J1
 refine WR.reg (WQ.runS [] 7 _ _ _ _ rfl ?_)
 rw [show IntKind.i64.wrap ((m : Int) - (i' : Int)) = ((m - i' : Nat) : Int) from by rw [wrap64 (by omega) (by omega)]; omega]
 refine WQ.callH rfl rfl rfl rfl rfl (swap_core L (m - i') m i' n hn (by omega) (by omega) xs' hl') .base rfl (WQ.runS [] 1000 _ _ _ _ rfl (WQ.nilS ?_))
 exact ⟨rfl, rfl, ⟨_, rfl, VLe.refl _⟩, fun b _ => rfl⟩
end Go.VM
end
section
/- Merging in place: the search for a place. -/
set_option maxRecDepth 100000
set_option linter.unusedVariables false
set_option linter.unusedSimpArgs false
namespace Go.VM
open Go.RowKit
theorem half {i j : Nat} (h : i + j < 1000000) : IntKind.i64.wrap ((IntKind.u64.wrap (IntKind.i64.wrap ((i : Int) + (j : Int)))).fdiv (2 ^ min (1 : Int).toNat IntKind.u64.bits)) = (((i + j) / 2 : Nat) : Int) := by
 rw [wrap64 (n := (i : Int) + (j : Int)) (by omega) (by omega)]
 have e : IntKind.u64.wrap ((i : Int) + (j : Int)) = (i : Int) + (j : Int) := by
  simp [IntKind.wrap, IntKind.bits, IntKind.signed]; omega
 rw [e, show min (1 : Int).toNat IntKind.u64.bits = 1 from rfl, show ((2 : Int) ^ 1) = 2 from rfl, Int.fdiv_eq_ediv_of_nonneg _ (by omega)]
 rw [wrap64 (by omega) (by omega)]
 omega
def bsF (K : Nat → Int) (y : Nat) (xs : List Nat) : Nat → Nat → Nat → Nat
 | 0, i, _ => i
 | f + 1, i, j => if i < j then
   match xs[(i + j) / 2]? with
   | some x => if K y < K x then bsF K y xs f ((i + j) / 2 + 1) j else bsF K y xs f i ((i + j) / 2)
   | none => i
  else i
def bTm (a m b i j n : Nat) : TM := [(0, .v (.sl 1002 0 n (.op 1))), (1, .v (.int .i64 a)), (2, .v (.int .i64 m)), (3, .v (.int .i64 b)), (4, .v (.fn (.func 66) [] [.ptr 1001 0])), (10, .v (.int .i64 i)), (11, .v (.int .i64 j))]
theorem bs1_loop {QN : S → Prop} {QX : X → S → Prop} (L : List EZ) (K : Nat → Int) (a m b n : Nat) (hn : n ≤ 100000) (han : a < n) (hK : ∀ x e, L[x]? = some e → K x = e.last) (xs : List Nat) (hlen : xs.length = n) (hin : ∀ x ∈ xs, x < L.length) (y : Nat) (hy : xs[a]? = some y) : ∀ (f i j : Nat), j - i < f → j ≤ n → i ≤ n →
  (∀ tm, tg tm 0 = some (.v (.sl 1002 0 n (.op 1))) → tg tm 1 = some (.v (.int .i64 a)) → tg tm 10 = some (.v (.int .i64 (bsF K y xs f i j))) → QX (.exit 0) (SL.toS ⟨tm, [], none, 1003, sol L xs, []⟩)) →
  WLr Go.Proofs.Try.prog [] ⟨Go.Proofs.Try.f83.ntmps, none, 83⟩ rc83_L1 (SL.toS ⟨bTm a m b i j n, [], none, 1003, sol L xs, []⟩) QN QX := by
 have hp : keysLt [(1000, Obj.cells true (flatZ L)), (1001, Obj.cells false [V.sl 1000 0 L.length (.op 4)])] 1002 := by intro e he; simp at he; rcases he with rfl | rfl <;> simp
 obtain ⟨ey, hey⟩ : ∃ e, L[y]? = some e := ⟨_, List.getElem?_eq_getElem (hin y (List.mem_of_getElem? hy))⟩
 have ky := hK y ey hey
 intro f
 induction f with
 | zero => intro i j h; omega
 | succ f ih =>
  intro i j hf hj hi hx
  unfold rc83_L1
  refine WLr.of ?_
  refine WR.seq (WR.seq (WR.reg (WQ.runS [] 1000 _ _ _ _ rfl (WQ.nilS ?_))))
  by_cases hij : i < j
  ·obtain ⟨x, hx1⟩ : ∃ x, xs[(i + j) / 2]? = some x := ⟨_, List.getElem?_eq_getElem (by omega)⟩
   obtain ⟨ex, hex⟩ : ∃ e, L[x]? = some e := ⟨_, List.getElem?_eq_getElem (hin x (List.mem_of_getElem? hx1))⟩
   have kx := hK x ex hex
   rw [show decide ((i : Int) < (j : Int)) = true from decide_eq_true (by omega)]
   refine WR.condT rfl (WR.skip ?_)
   refine WR.block (WR.seq (WR.reg (WQ.runS [] 1000 _ _ _ _ rfl (WQ.nilS ?_))))
   rw [half (by omega)]
   have hc : cmpF ey.last ex.last < 0 ↔ K y < K x := by
    rw [ky, kx]
    unfold cmpF
    split
    ·omega
    ·split <;> omega
   refine WR.seq (WR.dreg hmix2 (DW.runS [] 3 _ _ _ _ _ _ rfl ?_))
   refine DW.pureS rfl (fun h => rowIa rfl rfl (by omega : (i + j) / 2 < n)) rfl ?_
   refine DW.lightS rfl (rowLd (p := [(1000, Obj.cells true (flatZ L)), (1001, Obj.cells false [V.sl 1000 0 L.length (.op 4)])]) (N := 1002) (opn := true) (cs := ints xs) hp rfl (v := .int .i64 x) (by rw [Nat.zero_add, Nat.mul_one]; exact ints_get hx1)) rfl (DW.runS [] 2 _ _ _ _ _ _ rfl ?_)
   refine DW.pureS rfl (fun h => rowIa rfl rfl han) rfl ?_
   refine DW.lightS rfl (rowLd (p := [(1000, Obj.cells true (flatZ L)), (1001, Obj.cells false [V.sl 1000 0 L.length (.op 4)])]) (N := 1002) (opn := true) (cs := ints xs) hp rfl (v := .int .i64 y) (by rw [Nat.zero_add, Nat.mul_one]; exact ints_get hy)) rfl ?_
   refine DW.callH (by repeat (first | exact .nil | refine PendR.passM rfl ?_ | refine PendR.sameM rfl ?_ | refine PendR.lightM rfl ?_)) rfl rfl rfl rfl rfl (less_spec L x y ex ey hex hey (by decide) (by decide) (by decide) rfl rfl) .base rfl (DW.runS [] 1000 _ _ _ _ _ _ rfl ?_)
   refine DW.finS (by repeat (first | exact .nil | refine PendR.passM rfl ?_ | refine PendR.sameM rfl ?_ | refine PendR.lightM rfl ?_)) ?_
   refine WR.cond rfl (fun h1 => ?_) (fun h1 => ?_)
   ·have h1 := hc.1 (of_decide_eq_true h1)
    have hs : bsF K y xs (f + 1) i j = bsF K y xs f ((i + j) / 2 + 1) j := by
     simp only [bsF, if_pos hij, hx1, if_pos h1]
    rw [hs] at hx
    repeat (first | refine WR.seq ?_ | refine WR.block ?_ | refine WR.scope ?_ | refine WR.skip ?_ | refine WR.exit ?_ | refine WR.condT rfl ?_ | refine WR.condF rfl ?_ | refine WR.reg (WQ.runS [] 1000 _ _ _ _ rfl ?_) | refine WQ.nilS ?_ | refine WR.dreg hmix (DW.runS [] 1000 _ _ _ _ _ _ rfl ?_))
    rw [show IntKind.i64.wrap ((((i + j) / 2 : Nat) : Int) + 1) = (((i + j) / 2 + 1 : Nat) : Int) from by rw [wrap64 (by omega) (by omega)]; rfl]
    refine WIr.again (WLr.weak ?_ (ih ((i + j) / 2 + 1) j (by omega) hj (by omega) hx))
    refine SW.tellR ?_ ?_
    ·repeat (first | exact .nil | refine .cons rfl (.v (VLe.refl _)) ?_ | refine .cons rfl (.l _ _ rfl) ?_ | refine .cons rfl (.v (VLe.unk _ _)) ?_)
    ·repeat (first | exact .nil | refine .cons rfl (.inl rfl) ?_)
   ·have h1 : ¬ K y < K x := fun q => of_decide_eq_false h1 (hc.2 q)
    have hs : bsF K y xs (f + 1) i j = bsF K y xs f i ((i + j) / 2) := by
     simp only [bsF, if_pos hij, hx1, if_neg h1]
    rw [hs] at hx
    repeat (first | refine WR.seq ?_ | refine WR.block ?_ | refine WR.scope ?_ | refine WR.skip ?_ | refine WR.exit ?_ | refine WR.condT rfl ?_ | refine WR.condF rfl ?_ | refine WR.reg (WQ.runS [] 1000 _ _ _ _ rfl ?_) | refine WQ.nilS ?_ | refine WR.dreg hmix (DW.runS [] 1000 _ _ _ _ _ _ rfl ?_))
    refine WIr.again (WLr.weak ?_ (ih i ((i + j) / 2) (by omega) (by omega) hi hx))
    refine SW.tellR ?_ ?_
    ·repeat (first | exact .nil | refine .cons rfl (.v (VLe.refl _)) ?_ | refine .cons rfl (.l _ _ rfl) ?_ | refine .cons rfl (.v (VLe.unk _ _)) ?_)
    ·repeat (first | exact .nil | refine .cons rfl (.inl rfl) ?_)
  ·have hs : bsF K y xs (f + 1) i j = i := by simp only [bsF, if_neg hij]
   rw [hs] at hx
   rw [show decide ((i : Int) < (j : Int)) = false from decide_eq_false (by omega)]
   repeat (first | refine WR.seq ?_ | refine WR.block ?_ | refine WR.scope ?_ | refine WR.skip ?_ | refine WR.exit ?_ | refine WR.condT rfl ?_ | refine WR.condF rfl ?_ | refine WR.reg (WQ.runS [] 1000 _ _ _ _ rfl ?_) | refine WQ.nilS ?_ | refine WR.dreg hmix (DW.runS [] 1000 _ _ _ _ _ _ rfl ?_))
   exact hx _ rfl rfl rfl
def upF : Nat → Nat → List Nat → List Nat
 | 0, _, xs => xs
 | m + 1, k, xs => match xs[k]?, xs[k + 1]? with
  | some x, some y => upF m (k + 1) ((xs.set k y).set (k + 1) x)
  | _, _ => xs
theorem up_loop {QN : S → Prop} {QX : X → S → Prop} (L : List EZ) (i n : Nat) (hn : n ≤ 100000) (hi : i ≤ n) (h0 : 0 < i) : ∀ (m k : Nat) (xs : List Nat), k + m + 1 = max (k + 1) i → xs.length = n → k ≤ 100000 →
  (∀ tm, QX (.exit 2) (SL.toS ⟨tm, [], none, 1003, sol L (upF m k xs), []⟩)) →
  WLr Go.Proofs.Try.prog [] ⟨Go.Proofs.Try.f83.ntmps, none, 83⟩ rc83_L2 (SL.toS ⟨[(0, .v (.sl 1002 0 n (.op 1))), (10, .v (.int .i64 i)), (13, .v (.int .i64 k))], [], none, 1003, sol L xs, []⟩) QN QX := by
 have hp : keysLt [(1000, Obj.cells true (flatZ L)), (1001, Obj.cells false [V.sl 1000 0 L.length (.op 4)])] 1002 := by intro e he; simp at he; rcases he with rfl | rfl <;> simp
 have hlen2 : ∀ zs : List Nat, zs.length = n → (ints zs).length = n := fun zs hz => by simp [ints, hz]
 intro m
 induction m with
 | zero =>
  intro k xs hk hlen hk4 hx
  unfold rc83_L2
  refine WLr.of ?_
  refine WR.seq (WR.seq (WR.reg (WQ.runS [] 1000 _ _ _ _ rfl (WQ.nilS ?_))))
  rw [show IntKind.i64.wrap ((i : Int) - 1) = (i : Int) - 1 from wrap64 (by omega) (by omega), show decide ((k : Int) < (i : Int) - 1) = false from decide_eq_false (by omega)]
  repeat (first | refine WR.seq ?_ | refine WR.block ?_ | refine WR.scope ?_ | refine WR.skip ?_ | refine WR.exit ?_ | refine WR.condT rfl ?_ | refine WR.condF rfl ?_ | refine WR.reg (WQ.runS [] 1000 _ _ _ _ rfl ?_) | refine WQ.nilS ?_ | refine WR.dreg hmix (DW.runS [] 1000 _ _ _ _ _ _ rfl ?_))
  exact hx _
 | succ m ih =>
  intro k xs hk hlen hk4 hx
  obtain ⟨x, hx1⟩ : ∃ x, xs[k]? = some x := ⟨_, List.getElem?_eq_getElem (by omega)⟩
  obtain ⟨y, hy⟩ : ∃ y, xs[k + 1]? = some y := ⟨_, List.getElem?_eq_getElem (by omega)⟩
  have hs : upF (m + 1) k xs = upF m (k + 1) ((xs.set k y).set (k + 1) x) := by
   show (match xs[k]?, xs[k + 1]? with | some x, some y => upF m (k + 1) ((xs.set k y).set (k + 1) x) | _, _ => xs) = _
   rw [hx1, hy]
  rw [hs] at hx
  unfold rc83_L2
  refine WLr.of ?_
  refine WR.seq (WR.seq (WR.reg (WQ.runS [] 1000 _ _ _ _ rfl (WQ.nilS ?_))))
  rw [show IntKind.i64.wrap ((i : Int) - 1) = (i : Int) - 1 from wrap64 (by omega) (by omega), show decide ((k : Int) < (i : Int) - 1) = true from decide_eq_true (by omega)]
  refine WR.condT rfl (WR.skip ?_)
  refine WR.seq (WR.block (WR.dreg hmix2 (DW.runS [] 8 _ _ _ _ _ _ rfl ?_)))
  rw [show IntKind.i64.wrap ((k : Int) + 1) = ((k + 1 : Nat) : Int) from by rw [wrap64 (by omega) (by omega)]; rfl]
  refine DW.pureS rfl (fun h => rowIa rfl rfl (by omega : k + 1 < n)) rfl ?_
  refine DW.lightS rfl (rowLd (p := [(1000, Obj.cells true (flatZ L)), (1001, Obj.cells false [V.sl 1000 0 L.length (.op 4)])]) (N := 1002) (opn := true) (cs := ints xs) hp rfl (v := .int .i64 y) (by rw [Nat.zero_add, Nat.mul_one]; exact ints_get hy)) rfl (DW.runS [] 2 _ _ _ _ _ _ rfl ?_)
  refine DW.pureS rfl (fun h => rowIa rfl rfl (by omega : k < n)) rfl ?_
  refine DW.lightS rfl (rowLd (p := [(1000, Obj.cells true (flatZ L)), (1001, Obj.cells false [V.sl 1000 0 L.length (.op 4)])]) (N := 1002) (opn := true) (cs := ints xs) hp rfl (v := .int .i64 x) (by rw [Nat.zero_add, Nat.mul_one]; exact ints_get hx1)) rfl ?_
  refine DW.pureS rfl (fun h => rowIa rfl rfl (by omega : k < n)) rfl ?_
  refine DW.stS (by repeat (first | exact .nil | refine PendR.passM rfl ?_ | refine PendR.sameM rfl ?_ | refine PendR.lightM rfl ?_)) rfl rfl (rowSt (p := [(1000, Obj.cells true (flatZ L)), (1001, Obj.cells false [V.sl 1000 0 L.length (.op 4)])]) (N := 1002) (opn := true) (cs := ints xs) (cs' := ints (xs.set k y)) hp (by decide) rfl rfl rfl (by rw [Nat.zero_add, Nat.mul_one, hlen2 xs hlen]; omega) (by rw [Nat.zero_add, Nat.mul_one]; exact ints_set xs k y)) rfl ?_
  refine DW.pureS rfl (fun h => rowIa rfl rfl (by omega : k + 1 < n)) rfl ?_
  refine DW.stS (by repeat (first | exact .nil | refine PendR.passM rfl ?_ | refine PendR.sameM rfl ?_ | refine PendR.lightM rfl ?_)) rfl rfl (rowSt (p := [(1000, Obj.cells true (flatZ L)), (1001, Obj.cells false [V.sl 1000 0 L.length (.op 4)])]) (N := 1002) (opn := true) (cs := ints (xs.set k y)) (cs' := ints ((xs.set k y).set (k + 1) x)) hp (by decide) rfl rfl rfl (by rw [Nat.zero_add, Nat.mul_one, hlen2 _ (by rw [List.length_set]; exact hlen)]; omega) (by rw [Nat.zero_add, Nat.mul_one]; exact ints_set _ (k + 1) x)) rfl ?_
  refine DW.runS [] 1000 _ _ _ _ _ _ rfl ?_
  refine DW.finS (by repeat (first | exact .nil | refine PendR.passM rfl ?_ | refine PendR.sameM rfl ?_ | refine PendR.lightM rfl ?_)) ?_
  unfold rc83_J1
  repeat (first | refine WR.seq ?_ | refine WR.block ?_ | refine WR.scope ?_ | refine WR.skip ?_ | refine WR.exit ?_ | refine WR.condT rfl ?_ | refine WR.condF rfl ?_ | refine WR.reg (WQ.runS [] 1000 _ _ _ _ rfl ?_) | refine WQ.nilS ?_ | refine WR.dreg hmix (DW.runS [] 1000 _ _ _ _ _ _ rfl ?_))
  rw [show IntKind.i64.wrap ((k : Int) + 1) = ((k + 1 : Nat) : Int) from by rw [wrap64 (by omega) (by omega)]; rfl]
  refine WIr.again (WLr.weak ?_ (ih (k + 1) ((xs.set k y).set (k + 1) x) (by omega) (by simp [hlen]) (by omega) hx))
  refine SW.tellR ?_ ?_
  ·repeat (first | exact .nil | refine .cons rfl (.v (VLe.refl _)) ?_ | refine .cons rfl (.l _ _ rfl) ?_ | refine .cons rfl (.v (VLe.unk _ _)) ?_)
  ·repeat (first | exact .nil | refine .cons rfl (.inl rfl) ?_)
end Go.VM
end
section
/- Merging in place: the other search. -/
set_option maxRecDepth 100000
set_option linter.unusedVariables false
set_option linter.unusedSimpArgs false
namespace Go.VM
open Go.RowKit
def bsG (K : Nat → Int) (y : Nat) (xs : List Nat) : Nat → Nat → Nat → Nat
 | 0, i, _ => i
 | f + 1, i, j => if i < j then
   match xs[(i + j) / 2]? with
   | some x => if K x < K y then bsG K y xs f i ((i + j) / 2) else bsG K y xs f ((i + j) / 2 + 1) j
   | none => i
  else i
def cTm3 (a m b i j n : Nat) : TM := [(0, .v (.sl 1002 0 n (.op 1))), (1, .v (.int .i64 a)), (2, .v (.int .i64 m)), (3, .v (.int .i64 b)), (4, .v (.fn (.func 66) [] [.ptr 1001 0])), (14, .v (.int .i64 i)), (15, .v (.int .i64 j))]
theorem bs2_loop {QN : S → Prop} {QX : X → S → Prop} (L : List EZ) (K : Nat → Int) (a m b n : Nat) (hn : n ≤ 100000) (han : m < n) (hK : ∀ x e, L[x]? = some e → K x = e.last) (xs : List Nat) (hlen : xs.length = n) (hin : ∀ x ∈ xs, x < L.length) (y : Nat) (hy : xs[m]? = some y) : ∀ (f i j : Nat), j - i < f → j ≤ n → i ≤ n →
  (∀ tm, tg tm 0 = some (.v (.sl 1002 0 n (.op 1))) → tg tm 2 = some (.v (.int .i64 m)) → tg tm 14 = some (.v (.int .i64 (bsG K y xs f i j))) → QX (.exit 4) (SL.toS ⟨tm, [], none, 1003, sol L xs, []⟩)) →
  WLr Go.Proofs.Try.prog [] ⟨Go.Proofs.Try.f83.ntmps, none, 83⟩ rc83_L3 (SL.toS ⟨cTm3 a m b i j n, [], none, 1003, sol L xs, []⟩) QN QX := by
 have hp : keysLt [(1000, Obj.cells true (flatZ L)), (1001, Obj.cells false [V.sl 1000 0 L.length (.op 4)])] 1002 := by intro e he; simp at he; rcases he with rfl | rfl <;> simp
 obtain ⟨ey, hey⟩ : ∃ e, L[y]? = some e := ⟨_, List.getElem?_eq_getElem (hin y (List.mem_of_getElem? hy))⟩
 have ky := hK y ey hey
 intro f
 induction f with
 | zero => intro i j h; omega
 | succ f ih =>
  intro i j hf hj hi hx
  unfold rc83_L3
  refine WLr.of ?_
  refine WR.seq (WR.seq (WR.reg (WQ.runS [] 1000 _ _ _ _ rfl (WQ.nilS ?_))))
  by_cases hij : i < j
  ·obtain ⟨x, hx1⟩ : ∃ x, xs[(i + j) / 2]? = some x := ⟨_, List.getElem?_eq_getElem (by omega)⟩
   obtain ⟨ex, hex⟩ : ∃ e, L[x]? = some e := ⟨_, List.getElem?_eq_getElem (hin x (List.mem_of_getElem? hx1))⟩
   have kx := hK x ex hex
   rw [show decide ((i : Int) < (j : Int)) = true from decide_eq_true (by omega)]
   refine WR.condT rfl (WR.skip ?_)
   refine WR.block (WR.seq (WR.reg (WQ.runS [] 1000 _ _ _ _ rfl (WQ.nilS ?_))))
   rw [half (by omega)]
   have hc : cmpF ex.last ey.last < 0 ↔ K x < K y := by
    rw [ky, kx]
    unfold cmpF
    split
    ·omega
    ·split <;> omega
   refine WR.seq (WR.dreg hmix2 (DW.runS [] 3 _ _ _ _ _ _ rfl ?_))
   refine DW.pureS rfl (fun h => rowIa rfl rfl han) rfl ?_
   refine DW.lightS rfl (rowLd (p := [(1000, Obj.cells true (flatZ L)), (1001, Obj.cells false [V.sl 1000 0 L.length (.op 4)])]) (N := 1002) (opn := true) (cs := ints xs) hp rfl (v := .int .i64 y) (by rw [Nat.zero_add, Nat.mul_one]; exact ints_get hy)) rfl (DW.runS [] 2 _ _ _ _ _ _ rfl ?_)
   refine DW.pureS rfl (fun h => rowIa rfl rfl (by omega : (i + j) / 2 < n)) rfl ?_
   refine DW.lightS rfl (rowLd (p := [(1000, Obj.cells true (flatZ L)), (1001, Obj.cells false [V.sl 1000 0 L.length (.op 4)])]) (N := 1002) (opn := true) (cs := ints xs) hp rfl (v := .int .i64 x) (by rw [Nat.zero_add, Nat.mul_one]; exact ints_get hx1)) rfl ?_
   refine DW.callH (by repeat (first | exact .nil | refine PendR.passM rfl ?_ | refine PendR.sameM rfl ?_ | refine PendR.lightM rfl ?_)) rfl rfl rfl rfl rfl (less_spec L y x ey ex hey hex (by decide) (by decide) (by decide) rfl rfl) .base rfl (DW.runS [] 1000 _ _ _ _ _ _ rfl ?_)
   refine DW.finS (by repeat (first | exact .nil | refine PendR.passM rfl ?_ | refine PendR.sameM rfl ?_ | refine PendR.lightM rfl ?_)) ?_
   by_cases h1 : K x < K y
   ·rw [show decide (cmpF ex.last ey.last < 0) = true from decide_eq_true (hc.2 h1)]
    have hs : bsG K y xs (f + 1) i j = bsG K y xs f i ((i + j) / 2) := by
     simp only [bsG, if_pos hij, hx1, if_pos h1]
    rw [hs] at hx
    repeat (first | refine WR.seq ?_ | refine WR.block ?_ | refine WR.scope ?_ | refine WR.skip ?_ | refine WR.exit ?_ | refine WR.condT rfl ?_ | refine WR.condF rfl ?_ | refine WR.reg (WQ.runS [] 1000 _ _ _ _ rfl ?_) | refine WQ.nilS ?_ | refine WR.dreg hmix (DW.runS [] 1000 _ _ _ _ _ _ rfl ?_))
    refine WIr.again (WLr.weak ?_ (ih i ((i + j) / 2) (by omega) (by omega) hi hx))
    refine SW.tellR ?_ ?_
    ·repeat (first | exact .nil | refine .cons rfl (.v (VLe.refl _)) ?_ | refine .cons rfl (.l _ _ rfl) ?_ | refine .cons rfl (.v (VLe.unk _ _)) ?_)
    ·repeat (first | exact .nil | refine .cons rfl (.inl rfl) ?_)
   ·rw [show decide (cmpF ex.last ey.last < 0) = false from decide_eq_false (fun q => h1 (hc.1 q))]
    have hs : bsG K y xs (f + 1) i j = bsG K y xs f ((i + j) / 2 + 1) j := by
     simp only [bsG, if_pos hij, hx1, if_neg h1]
    rw [hs] at hx
    repeat (first | refine WR.seq ?_ | refine WR.block ?_ | refine WR.scope ?_ | refine WR.skip ?_ | refine WR.exit ?_ | refine WR.condT rfl ?_ | refine WR.condF rfl ?_ | refine WR.reg (WQ.runS [] 1000 _ _ _ _ rfl ?_) | refine WQ.nilS ?_ | refine WR.dreg hmix (DW.runS [] 1000 _ _ _ _ _ _ rfl ?_))
    rw [show IntKind.i64.wrap ((((i + j) / 2 : Nat) : Int) + 1) = (((i + j) / 2 + 1 : Nat) : Int) from by rw [wrap64 (by omega) (by omega)]; rfl]
    refine WIr.again (WLr.weak ?_ (ih ((i + j) / 2 + 1) j (by omega) hj (by omega) hx))
    refine SW.tellR ?_ ?_
    ·repeat (first | exact .nil | refine .cons rfl (.v (VLe.refl _)) ?_ | refine .cons rfl (.l _ _ rfl) ?_ | refine .cons rfl (.v (VLe.unk _ _)) ?_)
    ·repeat (first | exact .nil | refine .cons rfl (.inl rfl) ?_)
  ·have hs : bsG K y xs (f + 1) i j = i := by simp only [bsG, if_neg hij]
   rw [hs] at hx
   rw [show decide ((i : Int) < (j : Int)) = false from decide_eq_false (by omega)]
   repeat (first | refine WR.seq ?_ | refine WR.block ?_ | refine WR.scope ?_ | refine WR.skip ?_ | refine WR.exit ?_ | refine WR.condT rfl ?_ | refine WR.condF rfl ?_ | refine WR.reg (WQ.runS [] 1000 _ _ _ _ rfl ?_) | refine WQ.nilS ?_ | refine WR.dreg hmix (DW.runS [] 1000 _ _ _ _ _ _ rfl ?_))
   exact hx _ rfl rfl rfl
end Go.VM
end
section
/- Merging in place: carrying down, and the search for the cut. -/
set_option maxRecDepth 100000
set_option linter.unusedVariables false
set_option linter.unusedSimpArgs false
namespace Go.VM
open Go.RowKit
def dnF : Nat → Nat → List Nat → List Nat
 | 0, _, xs => xs
 | m + 1, k, xs => match xs[k]?, xs[k - 1]? with
  | some x, some y => dnF m (k - 1) ((xs.set k y).set (k - 1) x)
  | _, _ => xs
theorem dn_loop {QN : S → Prop} {QX : X → S → Prop} (L : List EZ) (i n : Nat) (hn : n ≤ 100000) : ∀ (m k : Nat) (xs : List Nat), k = i + m → xs.length = n → k < n →
  (∀ tm, QX (.exit 6) (SL.toS ⟨tm, [], none, 1003, sol L (dnF m k xs), []⟩)) →
  WLr Go.Proofs.Try.prog [] ⟨Go.Proofs.Try.f83.ntmps, none, 83⟩ rc83_L4 (SL.toS ⟨[(0, .v (.sl 1002 0 n (.op 1))), (14, .v (.int .i64 i)), (17, .v (.int .i64 k))], [], none, 1003, sol L xs, []⟩) QN QX := by
 have hp : keysLt [(1000, Obj.cells true (flatZ L)), (1001, Obj.cells false [V.sl 1000 0 L.length (.op 4)])] 1002 := by intro e he; simp at he; rcases he with rfl | rfl <;> simp
 have hlen2 : ∀ zs : List Nat, zs.length = n → (ints zs).length = n := fun zs hz => by simp [ints, hz]
 intro m
 induction m with
 | zero =>
  intro k xs hk hlen hk4 hx
  unfold rc83_L4
  refine WLr.of ?_
  refine WR.seq (WR.seq (WR.reg (WQ.runS [] 1000 _ _ _ _ rfl (WQ.nilS ?_))))
  rw [show decide ((k : Int) > (i : Int)) = false from decide_eq_false (by omega)]
  repeat (first | refine WR.seq ?_ | refine WR.block ?_ | refine WR.scope ?_ | refine WR.skip ?_ | refine WR.exit ?_ | refine WR.condT rfl ?_ | refine WR.condF rfl ?_ | refine WR.reg (WQ.runS [] 1000 _ _ _ _ rfl ?_) | refine WQ.nilS ?_ | refine WR.dreg hmix (DW.runS [] 1000 _ _ _ _ _ _ rfl ?_))
  exact hx _
 | succ m ih =>
  intro k xs hk hlen hk4 hx
  obtain ⟨x, hx1⟩ : ∃ x, xs[k]? = some x := ⟨_, List.getElem?_eq_getElem (by omega)⟩
  obtain ⟨y, hy⟩ : ∃ y, xs[k - 1]? = some y := ⟨_, List.getElem?_eq_getElem (by omega)⟩
  have hs : dnF (m + 1) k xs = dnF m (k - 1) ((xs.set k y).set (k - 1) x) := by
   show (match xs[k]?, xs[k - 1]? with | some x, some y => dnF m (k - 1) ((xs.set k y).set (k - 1) x) | _, _ => xs) = _
   rw [hx1, hy]
  rw [hs] at hx
  have wk : IntKind.i64.wrap ((k : Int) - 1) = ((k - 1 : Nat) : Int) := by rw [wrap64 (by omega) (by omega)]; omega
  unfold rc83_L4
  refine WLr.of ?_
  refine WR.seq (WR.seq (WR.reg (WQ.runS [] 1000 _ _ _ _ rfl (WQ.nilS ?_))))
  rw [show decide ((k : Int) > (i : Int)) = true from decide_eq_true (by omega)]
  refine WR.condT rfl (WR.skip ?_)
  refine WR.seq (WR.block (WR.dreg hmix2 (DW.runS [] 8 _ _ _ _ _ _ rfl ?_)))
  rw [wk]
  refine DW.pureS rfl (fun h => rowIa rfl rfl (by omega : k - 1 < n)) rfl ?_
  refine DW.lightS rfl (rowLd (p := [(1000, Obj.cells true (flatZ L)), (1001, Obj.cells false [V.sl 1000 0 L.length (.op 4)])]) (N := 1002) (opn := true) (cs := ints xs) hp rfl (v := .int .i64 y) (by rw [Nat.zero_add, Nat.mul_one]; exact ints_get hy)) rfl (DW.runS [] 2 _ _ _ _ _ _ rfl ?_)
  refine DW.pureS rfl (fun h => rowIa rfl rfl (by omega : k < n)) rfl ?_
  refine DW.lightS rfl (rowLd (p := [(1000, Obj.cells true (flatZ L)), (1001, Obj.cells false [V.sl 1000 0 L.length (.op 4)])]) (N := 1002) (opn := true) (cs := ints xs) hp rfl (v := .int .i64 x) (by rw [Nat.zero_add, Nat.mul_one]; exact ints_get hx1)) rfl ?_
  refine DW.pureS rfl (fun h => rowIa rfl rfl (by omega : k < n)) rfl ?_
  refine DW.stS (by repeat (first | exact .nil | refine PendR.passM rfl ?_ | refine PendR.sameM rfl ?_ | refine PendR.lightM rfl ?_)) rfl rfl (rowSt (p := [(1000, Obj.cells true (flatZ L)), (1001, Obj.cells false [V.sl 1000 0 L.length (.op 4)])]) (N := 1002) (opn := true) (cs := ints xs) (cs' := ints (xs.set k y)) hp (by decide) rfl rfl rfl (by rw [Nat.zero_add, Nat.mul_one, hlen2 xs hlen]; omega) (by rw [Nat.zero_add, Nat.mul_one]; exact ints_set xs k y)) rfl ?_
  refine DW.pureS rfl (fun h => rowIa rfl rfl (by omega : k - 1 < n)) rfl ?_
  refine DW.stS (by repeat (first | exact .nil | refine PendR.passM rfl ?_ | refine PendR.sameM rfl ?_ | refine PendR.lightM rfl ?_)) rfl rfl (rowSt (p := [(1000, Obj.cells true (flatZ L)), (1001, Obj.cells false [V.sl 1000 0 L.length (.op 4)])]) (N := 1002) (opn := true) (cs := ints (xs.set k y)) (cs' := ints ((xs.set k y).set (k - 1) x)) hp (by decide) rfl rfl rfl (by rw [Nat.zero_add, Nat.mul_one, hlen2 _ (by rw [List.length_set]; exact hlen)]; omega) (by rw [Nat.zero_add, Nat.mul_one]; exact ints_set _ (k - 1) x)) rfl ?_
  refine DW.runS [] 1000 _ _ _ _ _ _ rfl ?_
  refine DW.finS (by repeat (first | exact .nil | refine PendR.passM rfl ?_ | refine PendR.sameM rfl ?_ | refine PendR.lightM rfl ?_)) ?_
  unfold rc83_J3
  repeat (first | refine WR.seq ?_ | refine WR.block ?_ | refine WR.scope ?_ | refine WR.skip ?_ | refine WR.exit ?_ | refine WR.condT rfl ?_ | refine WR.condF rfl ?_ | refine WR.reg (WQ.runS [] 1000 _ _ _ _ rfl ?_) | refine WQ.nilS ?_ | refine WR.dreg hmix (DW.runS [] 1000 _ _ _ _ _ _ rfl ?_))
  rw [wk]
  refine WIr.again (WLr.weak ?_ (ih (k - 1) ((xs.set k y).set (k - 1) x) (by omega) (by simp [hlen]) (by omega) hx))
  refine SW.tellR ?_ ?_
  ·repeat (first | exact .nil | refine .cons rfl (.v (VLe.refl _)) ?_ | refine .cons rfl (.l _ _ rfl) ?_ | refine .cons rfl (.v (VLe.unk _ _)) ?_)
  ·repeat (first | exact .nil | refine .cons rfl (.inl rfl) ?_)
def bsH (K : Nat → Int) (p : Nat) (xs : List Nat) : Nat → Nat → Nat → Nat
 | 0, i, _ => i
 | f + 1, i, j => if i < j then
   match xs[(i + j) / 2]?, xs[p - (i + j) / 2]? with
   | some x, some y => if K x < K y then bsH K p xs f i ((i + j) / 2) else bsH K p xs f ((i + j) / 2 + 1) j
   | _, _ => i
  else i
def dTm3 (a m b mid N p i j n : Nat) : TM := [(0, .v (.sl 1002 0 n (.op 1))), (1, .v (.int .i64 a)), (2, .v (.int .i64 m)), (3, .v (.int .i64 b)), (4, .v (.fn (.func 66) [] [.ptr 1001 0])), (18, .v (.int .i64 mid)), (19, .v (.int .i64 N)), (20, .v (.int .i64 i)), (21, .v (.int .i64 j)), (22, .v (.int .i64 p))]
theorem bs3_loop {QN : S → Prop} {QX : X → S → Prop} (L : List EZ) (K : Nat → Int) (a m b mid N p n j0 : Nat) (hn : n ≤ 100000) (hp4 : p ≤ 200000) (hK : ∀ x e, L[x]? = some e → K x = e.last) (xs : List Nat) (hlen : xs.length = n) (hin : ∀ x ∈ xs, x < L.length) (hj0 : j0 ≤ p + 1) (hj1 : j0 ≤ n) : ∀ (f i j : Nat), j - i < f → j ≤ j0 → i ≤ j0 → p < n + i →
  (∀ tm, tg tm 0 = some (.v (.sl 1002 0 n (.op 1))) → tg tm 1 = some (.v (.int .i64 a)) → tg tm 2 = some (.v (.int .i64 m)) → tg tm 3 = some (.v (.int .i64 b)) → tg tm 4 = some (.v (.fn (.func 66) [] [.ptr 1001 0])) → tg tm 18 = some (.v (.int .i64 mid)) → tg tm 19 = some (.v (.int .i64 N)) → tg tm 20 = some (.v (.int .i64 (bsH K p xs f i j))) → QX (.exit 8) (SL.toS ⟨tm, [], none, 1003, sol L xs, []⟩)) →
  WLr Go.Proofs.Try.prog [] ⟨Go.Proofs.Try.f83.ntmps, none, 83⟩ rc83_L5 (SL.toS ⟨dTm3 a m b mid N p i j n, [], none, 1003, sol L xs, []⟩) QN QX := by
 have hp : keysLt [(1000, Obj.cells true (flatZ L)), (1001, Obj.cells false [V.sl 1000 0 L.length (.op 4)])] 1002 := by intro e he; simp at he; rcases he with rfl | rfl <;> simp
 intro f
 induction f with
 | zero => intro i j h; omega
 | succ f ih =>
  intro i j hf hj hi hpi hx
  unfold rc83_L5
  refine WLr.of ?_
  refine WR.seq (WR.seq (WR.reg (WQ.runS [] 1000 _ _ _ _ rfl (WQ.nilS ?_))))
  by_cases hij : i < j
  ·obtain ⟨x, hx1⟩ : ∃ x, xs[(i + j) / 2]? = some x := ⟨_, List.getElem?_eq_getElem (by omega)⟩
   obtain ⟨y, hy⟩ : ∃ y, xs[p - (i + j) / 2]? = some y := ⟨_, List.getElem?_eq_getElem (by omega)⟩
   obtain ⟨ex, hex⟩ : ∃ e, L[x]? = some e := ⟨_, List.getElem?_eq_getElem (hin x (List.mem_of_getElem? hx1))⟩
   obtain ⟨ey, hey⟩ : ∃ e, L[y]? = some e := ⟨_, List.getElem?_eq_getElem (hin y (List.mem_of_getElem? hy))⟩
   have kx := hK x ex hex
   have ky := hK y ey hey
   rw [show decide ((i : Int) < (j : Int)) = true from decide_eq_true (by omega)]
   refine WR.condT rfl (WR.skip ?_)
   refine WR.block (WR.seq (WR.reg (WQ.runS [] 1000 _ _ _ _ rfl (WQ.nilS ?_))))
   rw [half (by omega)]
   have hc : cmpF ex.last ey.last < 0 ↔ K x < K y := by
    rw [ky, kx]
    unfold cmpF
    split
    ·omega
    ·split <;> omega
   refine WR.seq (WR.dreg hmix2 (DW.runS [] 5 _ _ _ _ _ _ rfl ?_))
   rw [show IntKind.i64.wrap ((p : Int) - (((i + j) / 2 : Nat) : Int)) = ((p - (i + j) / 2 : Nat) : Int) from by rw [wrap64 (by omega) (by omega)]; omega]
   refine DW.pureS rfl (fun h => rowIa rfl rfl (by omega : p - (i + j) / 2 < n)) rfl ?_
   refine DW.lightS rfl (rowLd (p := [(1000, Obj.cells true (flatZ L)), (1001, Obj.cells false [V.sl 1000 0 L.length (.op 4)])]) (N := 1002) (opn := true) (cs := ints xs) hp rfl (v := .int .i64 y) (by rw [Nat.zero_add, Nat.mul_one]; exact ints_get hy)) rfl (DW.runS [] 2 _ _ _ _ _ _ rfl ?_)
   refine DW.pureS rfl (fun h => rowIa rfl rfl (by omega : (i + j) / 2 < n)) rfl ?_
   refine DW.lightS rfl (rowLd (p := [(1000, Obj.cells true (flatZ L)), (1001, Obj.cells false [V.sl 1000 0 L.length (.op 4)])]) (N := 1002) (opn := true) (cs := ints xs) hp rfl (v := .int .i64 x) (by rw [Nat.zero_add, Nat.mul_one]; exact ints_get hx1)) rfl ?_
   refine DW.callH (by repeat (first | exact .nil | refine PendR.passM rfl ?_ | refine PendR.sameM rfl ?_ | refine PendR.lightM rfl ?_)) rfl rfl rfl rfl rfl (less_spec L y x ey ex hey hex (by decide) (by decide) (by decide) rfl rfl) .base rfl (DW.runS [] 1000 _ _ _ _ _ _ rfl ?_)
   refine DW.finS (by repeat (first | exact .nil | refine PendR.passM rfl ?_ | refine PendR.sameM rfl ?_ | refine PendR.lightM rfl ?_)) ?_
   by_cases h1 : K x < K y
   ·rw [show decide (cmpF ex.last ey.last < 0) = true from decide_eq_true (hc.2 h1)]
    have hs : bsH K p xs (f + 1) i j = bsH K p xs f i ((i + j) / 2) := by
     simp only [bsH, if_pos hij, hx1, hy, if_pos h1]
    rw [hs] at hx
    repeat (first | refine WR.seq ?_ | refine WR.block ?_ | refine WR.scope ?_ | refine WR.skip ?_ | refine WR.exit ?_ | refine WR.condT rfl ?_ | refine WR.condF rfl ?_ | refine WR.reg (WQ.runS [] 1000 _ _ _ _ rfl ?_) | refine WQ.nilS ?_ | refine WR.dreg hmix (DW.runS [] 1000 _ _ _ _ _ _ rfl ?_))
    refine WIr.again (WLr.weak ?_ (ih i ((i + j) / 2) (by omega) (by omega) hi hpi hx))
    refine SW.tellR ?_ ?_
    ·repeat (first | exact .nil | refine .cons rfl (.v (VLe.refl _)) ?_ | refine .cons rfl (.l _ _ rfl) ?_ | refine .cons rfl (.v (VLe.unk _ _)) ?_)
    ·repeat (first | exact .nil | refine .cons rfl (.inl rfl) ?_)
   ·rw [show decide (cmpF ex.last ey.last < 0) = false from decide_eq_false (fun q => h1 (hc.1 q))]
    have hs : bsH K p xs (f + 1) i j = bsH K p xs f ((i + j) / 2 + 1) j := by
     simp only [bsH, if_pos hij, hx1, hy, if_neg h1]
    rw [hs] at hx
    repeat (first | refine WR.seq ?_ | refine WR.block ?_ | refine WR.scope ?_ | refine WR.skip ?_ | refine WR.exit ?_ | refine WR.condT rfl ?_ | refine WR.condF rfl ?_ | refine WR.reg (WQ.runS [] 1000 _ _ _ _ rfl ?_) | refine WQ.nilS ?_ | refine WR.dreg hmix (DW.runS [] 1000 _ _ _ _ _ _ rfl ?_))
    rw [show IntKind.i64.wrap ((((i + j) / 2 : Nat) : Int) + 1) = (((i + j) / 2 + 1 : Nat) : Int) from by rw [wrap64 (by omega) (by omega)]; rfl]
    refine WIr.again (WLr.weak ?_ (ih ((i + j) / 2 + 1) j (by omega) hj (by omega) (by omega) hx))
    refine SW.tellR ?_ ?_
    ·repeat (first | exact .nil | refine .cons rfl (.v (VLe.refl _)) ?_ | refine .cons rfl (.l _ _ rfl) ?_ | refine .cons rfl (.v (VLe.unk _ _)) ?_)
    ·repeat (first | exact .nil | refine .cons rfl (.inl rfl) ?_)
  ·have hs : bsH K p xs (f + 1) i j = i := by simp only [bsH, if_neg hij]
   rw [hs] at hx
   rw [show decide ((i : Int) < (j : Int)) = false from decide_eq_false (by omega)]
   repeat (first | refine WR.seq ?_ | refine WR.block ?_ | refine WR.scope ?_ | refine WR.skip ?_ | refine WR.exit ?_ | refine WR.condT rfl ?_ | refine WR.condF rfl ?_ | refine WR.reg (WQ.runS [] 1000 _ _ _ _ rfl ?_) | refine WQ.nilS ?_ | refine WR.dreg hmix (DW.runS [] 1000 _ _ _ _ _ _ rfl ?_))
   exact hx _ rfl rfl rfl rfl rfl rfl rfl rfl
end Go.VM
end
