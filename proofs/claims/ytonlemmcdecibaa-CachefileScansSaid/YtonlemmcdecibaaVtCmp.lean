/- laid for this seat: VtCmp -/
import Derived.Test.YtonlemmcdecibaaVtRunR
/- How the program compares entries. -/
set_option maxRecDepth 100000
set_option linter.unusedVariables false
set_option linter.unusedSimpArgs false
namespace Go.VM
open Go.RowKit
theorem sizeP_spec (e : EZ) (h1 : e.k.length + e.v.length < 9223372036854775808) (h : H) : SCall Go.Proofs.Try.prog [] 68 [.agg (encZ e)] none h (.ret (.int .i64 ((e.k.length + e.v.length : Nat) : Int))) none h := by
 refine SCall.pure0 rfl ?_ (by exact ⟨⟨trivial, trivial, trivial, trivial, trivial⟩, trivial⟩) (by exact trivial) h
 refine SCall.listed (fn := Go.Proofs.Try.f68) (by kernel_rfl) res68 (by kernel_rfl) (by kernel_rfl) (Nat.le_refl _) rfl (trivial) trivial ?_
 unfold rc68
 refine WR.seq (WR.reg (WQ.runS [] 1000 _ _ _ _ rfl (WQ.nilS ?_)))
 refine WR.seq (WR.reg (WQ.runS [] 1000 _ _ _ _ rfl (WQ.nilS ?_)))
 rw [show IntKind.i64.wrap ((e.k.length : Int) + (e.v.length : Int)) = ((e.k.length + e.v.length : Nat) : Int) from by rw [wrap64 (by omega) (by omega)]; simp]
 refine WR.ret ⟨rfl, rfl, ⟨_, rfl, VLe.refl _⟩, fun b _ => rfl⟩
theorem nan_spec (a : Int) (h : H) : SCall Go.Proofs.Try.prog [] 79 [.int .i64 a] none h (.ret (.bool false)) none h := by
 refine SCall.pure0 rfl ?_ (by exact ⟨trivial, trivial⟩) (by exact trivial) h
 refine SCall.listed (fn := Go.Proofs.Try.f79) (by kernel_rfl) res79 (by kernel_rfl) (by kernel_rfl) (Nat.le_refl _) rfl (trivial) trivial ?_
 unfold rc79
 refine WR.seq (WR.reg (WQ.runS [] 1000 _ _ _ _ rfl (WQ.nilS ?_)))
 refine WR.seq (WR.reg (WQ.runS [] 1000 _ _ _ _ rfl (WQ.nilS ?_)))
 rw [show decide (a = a) = true from decide_eq_true rfl]
 refine WR.ret ⟨rfl, rfl, ⟨_, rfl, VLe.refl _⟩, fun b _ => rfl⟩
def cmpF (a b : Int) : Int := if a < b then -1 else if a > b then 1 else 0
theorem cmp_spec (a b : Int) (h : H) : SCall Go.Proofs.Try.prog [] 67 [.int .i64 a, .int .i64 b] none h (.ret (.int .i64 (cmpF a b))) none h := by
 refine SCall.pure0 rfl ?_ (by exact ⟨trivial, trivial, trivial⟩) (by exact trivial) h
 refine SCall.listed (fn := Go.Proofs.Try.f67) (by kernel_rfl) res67 (by kernel_rfl) (by kernel_rfl) (Nat.le_refl _) rfl (trivial) trivial ?_
 unfold rc67
 refine WR.seq (WR.reg (WQ.runS [] 1000 _ _ _ _ rfl (WQ.nilS ?_)))
 refine WR.seq (WR.reg (WQ.runS [] 1 _ _ _ _ rfl ?_))
 refine WQ.callH rfl rfl rfl rfl rfl (nan_spec a _) .base rfl (WQ.runS [] 1000 _ _ _ _ rfl (WQ.nilS ?_))
 refine WR.seq (WR.reg (WQ.runS [] 1 _ _ _ _ rfl ?_))
 refine WQ.callH rfl rfl rfl rfl rfl (nan_spec b _) .base rfl (WQ.runS [] 1000 _ _ _ _ rfl (WQ.nilS ?_))
 repeat (first | refine WR.seq ?_ | refine WR.block ?_ | refine WR.scope ?_ | refine WR.skip ?_ | refine WR.exit ?_ | refine WR.condT rfl ?_ | refine WR.condF rfl ?_ | refine WR.reg (WQ.runS [] 1000 _ _ _ _ rfl ?_) | refine WQ.nilS ?_ | refine WR.dreg hmix (DW.runS [] 1000 _ _ _ _ _ _ rfl ?_))
 refine WR.cond rfl (fun h1 => ?_) (fun h1 => ?_)
 ·have h1 := of_decide_eq_true h1
  rw [show cmpF a b = -1 from by unfold cmpF; rw [if_pos h1]]
  repeat (first | refine WR.seq ?_ | refine WR.block ?_ | refine WR.scope ?_ | refine WR.skip ?_ | refine WR.exit ?_ | refine WR.condT rfl ?_ | refine WR.condF rfl ?_ | refine WR.reg (WQ.runS [] 1000 _ _ _ _ rfl ?_) | refine WQ.nilS ?_ | refine WR.dreg hmix (DW.runS [] 1000 _ _ _ _ _ _ rfl ?_))
  refine WR.ret ⟨rfl, rfl, ⟨_, rfl, VLe.refl _⟩, fun b _ => rfl⟩
 ·have h1 := of_decide_eq_false h1
  repeat (first | refine WR.seq ?_ | refine WR.block ?_ | refine WR.scope ?_ | refine WR.skip ?_ | refine WR.exit ?_ | refine WR.condT rfl ?_ | refine WR.condF rfl ?_ | refine WR.reg (WQ.runS [] 1000 _ _ _ _ rfl ?_) | refine WQ.nilS ?_ | refine WR.dreg hmix (DW.runS [] 1000 _ _ _ _ _ _ rfl ?_))
  refine WR.cond rfl (fun h2 => ?_) (fun h2 => ?_)
  ·have h2 := of_decide_eq_true h2
   rw [show cmpF a b = 1 from by unfold cmpF; rw [if_neg h1, if_pos h2]]
   repeat (first | refine WR.seq ?_ | refine WR.block ?_ | refine WR.scope ?_ | refine WR.skip ?_ | refine WR.exit ?_ | refine WR.condT rfl ?_ | refine WR.condF rfl ?_ | refine WR.reg (WQ.runS [] 1000 _ _ _ _ rfl ?_) | refine WQ.nilS ?_ | refine WR.dreg hmix (DW.runS [] 1000 _ _ _ _ _ _ rfl ?_))
   refine WR.ret ⟨rfl, rfl, ⟨_, rfl, VLe.refl _⟩, fun b _ => rfl⟩
  ·have h2 := of_decide_eq_false h2
   rw [show cmpF a b = 0 from by unfold cmpF; rw [if_neg h1, if_neg h2]]
   repeat (first | refine WR.seq ?_ | refine WR.block ?_ | refine WR.scope ?_ | refine WR.skip ?_ | refine WR.exit ?_ | refine WR.condT rfl ?_ | refine WR.condF rfl ?_ | refine WR.reg (WQ.runS [] 1000 _ _ _ _ rfl ?_) | refine WQ.nilS ?_ | refine WR.dreg hmix (DW.runS [] 1000 _ _ _ _ _ _ rfl ?_))
   refine WR.ret ⟨rfl, rfl, ⟨_, rfl, VLe.refl _⟩, fun b _ => rfl⟩
theorem less_core (L : List EZ) (i j : Nat) (ei ej : EZ) (hi : L[i]? = some ei) (hj : L[j]? = some ej) :
  SCall Go.Proofs.Try.prog [] 66 [.int .i64 i, .int .i64 j, .ptr 1000 0] none ⟨1001, og [(1000, .cells false [.lst (L.map encZ) .unk])], []⟩ (.ret (.int .i64 (cmpF ej.last ei.last))) none ⟨1001, og [(1000, .cells false [.lst (L.map encZ) .unk])], []⟩ := by
 have g1 : (L.map encZ)[i]? = some (encZ ei) := by rw [List.getElem?_map, hi]; rfl
 have g2 : (L.map encZ)[j]? = some (encZ ej) := by rw [List.getElem?_map, hj]; rfl
 refine SCall.listed (fn := Go.Proofs.Try.f66) (by kernel_rfl) res66 (by kernel_rfl) (by kernel_rfl) (Nat.le_refl _) rfl ((by exact ⟨⟨⟨encZs_in _, trivial⟩, trivial⟩, trivial⟩)) trivial ?_
 unfold rc66
 refine WR.seq (WR.reg (WQ.runS [] 1000 _ _ _ _ rfl (WQ.nilS ?_)))
 refine WR.seq (WR.dreg hmix2 (DW.runS [] 2 _ _ _ _ _ _ rfl ?_))
 refine DW.pureS rfl (fun h => ia_at rfl rfl g2 rfl) rfl (DW.runS [] 4 _ _ _ _ _ _ rfl ?_)
 refine DW.pureS rfl (fun h => ia_at rfl rfl g1 rfl) rfl (DW.runS [] 1000 _ _ _ _ _ _ rfl ?_)
 refine DW.callH (by repeat (first | exact .nil | refine PendR.passM rfl ?_ | refine PendR.sameM rfl ?_ | refine PendR.lightM rfl ?_)) rfl rfl rfl rfl rfl (cmp_spec _ _ _) .base rfl (DW.runS [] 1000 _ _ _ _ _ _ rfl ?_)
 refine DW.finS (by repeat (first | exact .nil | refine PendR.passM rfl ?_ | refine PendR.sameM rfl ?_ | refine PendR.lightM rfl ?_)) ?_
 refine WR.ret ⟨rfl, rfl, ⟨_, rfl, VLe.refl _⟩, fun b _ => rfl⟩
theorem renss_encZ {ρ : Nat → Nat} (L : List EZ) : renss ρ (L.map encZ) = L.map encZ := renss_map fun _ _ => rfl
theorem less_spec (L : List EZ) (i j : Nat) (ei ej : EZ) (hi : L[i]? = some ei) (hj : L[j]? = some ej) {h : H} {c : Nat} (hc : glim ≤ c) (hob : h.ob c = some (.cells false [.lst (L.map encZ) .unk])) :
  SCall Go.Proofs.Try.prog [] 66 [.int .i64 i, .int .i64 j, .ptr c 0] none h (.ret (.int .i64 (cmpF ej.last ei.last))) none h := by
 refine SCall.frameL (n := 0) [c] rfl (less_core L i j ei ej hi hj) (by simp) (by simpa using hc) (fun k => ?_) rfl (fun k d o hk ho => ?_) (by exact ⟨⟨⟨encZs_in _, trivial⟩, trivial⟩, trivial⟩) (by exact ⟨trivial, trivial, (by show 1000 < glim + 1; decide), trivial⟩) (by exact trivial) (by exact ⟨⟨⟨encZs_in _, trivial⟩, trivial⟩, trivial⟩) rfl rfl rfl rfl (fun k hk => ?_) (fun d hd => rfl)
 ·simp only [og_cons]
  show _ ↔ 1000 ≤ k ∧ k < 1001
  split
  ·simp; omega
  ·simp [og]; omega
 ·match k, hk with
  | 0, hk =>
   cases hk; cases ho
   rw [hob]
   show some _ = some (Obj.cells false [V.lst (renss _ (L.map encZ)) _])
   rw [renss_encZ]; rfl
 ·have hk : k < 1 := hk
  match k, hk with
  | 0, _ =>
   show h.ob c = some (Obj.cells false [V.lst (renss _ (L.map encZ)) _])
   rw [renss_encZ]; exact hob
def ints (xs : List Nat) : List V := xs.map fun (x : Nat) => V.int .i64 (x : Int)
def sol (L : List EZ) (xs : List Nat) : OL := [(1000, .cells false [.lst (L.map encZ) .unk]), (1001, .cells true (ints xs))]
theorem ints_get {xs : List Nat} {j x : Nat} (h : xs[j]? = some x) : (ints xs)[j]? = some (.int .i64 x) := by simp [ints, h]
theorem ints_set (xs : List Nat) (j x : Nat) : (ints xs).set j (.int .i64 x) = ints (xs.set j x) := by simp [ints, List.map_set]
def sinkF (K : Nat → Int) (a : Nat) : Nat → List Nat → List Nat
 | 0, xs => xs
 | j + 1, xs => match xs[j]?, xs[j + 1]? with
  | some y, some x => if j + 1 > a ∧ K y < K x then sinkF K a j ((xs.set (j + 1) y).set j x) else xs
  | _, _ => xs
def sTm (a b i j n : Nat) : TM := [(0, .v (.sl 1001 0 n (.op 1))), (1, .v (.int .i64 a)), (2, .v (.int .i64 b)), (3, .v (.fn (.func 66) [] [.ptr 1000 0])), (8, .v (.int .i64 i)), (9, .v (.int .i64 j))]
theorem DW.skipS {gl : List Nat} {fr : Fr} {ds : List Nat} {anc : Nat} {hs : List (RI × List RI)} {es : List ER} {r : RI} {l2 : List RI} {tm tm1 : TM} {df : List AD} {u : Option AMode} {nx : Nat} {ol : OL} {lc : LM} {QN : S → Prop} {QX : X → S → Prop} (pd : PendR Go.Proofs.Try.prog gl fr.nt ⟨nx, og ol, lc⟩ anc es) (hw : wantR r.gd (tsub tm r.rd) = some false) (hp : putT fr.nt tm r.dst (.v undefV) = some tm1)
  (h : DW Go.Proofs.Try.prog gl fr ds l2 r.anc hs (SL.toS ⟨tm1, df, u, nx, ol, lc⟩) es QN QX) : DW Go.Proofs.Try.prog gl fr ds [] anc ((r, l2) :: hs) (SL.toS ⟨tm, df, u, nx, ol, lc⟩) es QN QX := DW.skip (s := SL.toS ⟨tm, df, u, nx, ol, lc⟩) pd hw hp h
theorem sink_loop {QN : S → Prop} {QX : X → S → Prop} (L : List EZ) (K : Nat → Int) (a b i n : Nat) (hn : n ≤ 4000)
  (hK : ∀ x e, L[x]? = some e → K x = e.last) : ∀ (j : Nat) (xs : List Nat), xs.length = n → (∀ x ∈ xs, x < L.length) → j < n →
  (∀ tm, tg tm 0 = some (.v (.sl 1001 0 n (.op 1))) → tg tm 1 = some (.v (.int .i64 a)) → tg tm 2 = some (.v (.int .i64 b)) → tg tm 3 = some (.v (.fn (.func 66) [] [.ptr 1000 0])) → tg tm 8 = some (.v (.int .i64 i)) → QX (.exit 2) (SL.toS ⟨tm, [], none, 1002, sol L (sinkF K a j xs), []⟩)) →
  WLr Go.Proofs.Try.prog [] ⟨Go.Proofs.Try.f82.ntmps, none, 82⟩ rc82_L1 (SL.toS ⟨sTm a b i j n, [], none, 1002, sol L xs, []⟩) QN QX := by
 have hp : keysLt [(1000, Obj.cells false [V.lst (L.map encZ) .unk])] 1001 := by intro e he; simp at he; subst he; simp
 intro j
 induction j with
 | zero =>
  intro xs hlen hin hj hx
  unfold rc82_L1
  refine WLr.of ?_
  refine WR.seq (WR.seq (WR.dreg hmix2 (DW.runS [] 4 _ _ _ _ _ _ rfl ?_)))
  rw [show decide (((0 : Nat) : Int) > (a : Int)) = false from decide_eq_false (by omega)]
  refine DW.runS [] 1000 _ _ _ _ _ _ rfl ?_
  refine DW.skipS (by repeat (first | exact .nil | refine PendR.passM rfl ?_ | refine PendR.sameM rfl ?_ | refine PendR.lightM rfl ?_)) rfl rfl (DW.runS [] 1000 _ _ _ _ _ _ rfl ?_)
  refine DW.finS (by repeat (first | exact .nil | refine PendR.passM rfl ?_ | refine PendR.sameM rfl ?_ | refine PendR.lightM rfl ?_)) ?_
  repeat (first | refine WR.seq ?_ | refine WR.block ?_ | refine WR.scope ?_ | refine WR.skip ?_ | refine WR.exit ?_ | refine WR.condT rfl ?_ | refine WR.condF rfl ?_ | refine WR.reg (WQ.runS [] 1000 _ _ _ _ rfl ?_) | refine WQ.nilS ?_ | refine WR.dreg hmix (DW.runS [] 1000 _ _ _ _ _ _ rfl ?_))
  exact hx _ rfl rfl rfl rfl rfl
 | succ j ih =>
  intro xs hlen hin hj hx
  obtain ⟨y, hy⟩ : ∃ y, xs[j]? = some y := ⟨_, List.getElem?_eq_getElem (by omega)⟩
  obtain ⟨x, hx1⟩ : ∃ x, xs[j + 1]? = some x := ⟨_, List.getElem?_eq_getElem (by omega)⟩
  obtain ⟨ey, hey⟩ : ∃ e, L[y]? = some e := ⟨_, List.getElem?_eq_getElem (hin y (List.mem_of_getElem? hy))⟩
  obtain ⟨ex, hex⟩ : ∃ e, L[x]? = some e := ⟨_, List.getElem?_eq_getElem (hin x (List.mem_of_getElem? hx1))⟩
  have ky := hK y ey hey
  have kx := hK x ex hex
  unfold rc82_L1
  refine WLr.of ?_
  refine WR.seq (WR.seq (WR.dreg hmix2 (DW.runS [] 4 _ _ _ _ _ _ rfl ?_)))
  by_cases ha : j + 1 > a
  ·rw [show decide (((j + 1 : Nat) : Int) > (a : Int)) = true from decide_eq_true (by omega)]
   refine DW.runS [] 3 _ _ _ _ _ _ rfl ?_
   refine DW.pureS rfl (fun h => rowIa rfl rfl hj) rfl ?_
   refine DW.lightS rfl (rowLd (p := [(1000, Obj.cells false [V.lst (L.map encZ) .unk])]) (N := 1001) (opn := true) (cs := ints xs) hp rfl (v := .int .i64 x) (by rw [Nat.zero_add, Nat.mul_one]; exact ints_get hx1)) rfl (DW.runS [] 3 _ _ _ _ _ _ rfl ?_)
   rw [show IntKind.i64.wrap (((j + 1 : Nat) : Int) - 1) = (j : Int) from by rw [wrap64 (by omega) (by omega)]; omega]
   refine DW.pureS rfl (fun h => rowIa rfl rfl (by omega : j < n)) rfl ?_
   refine DW.lightS rfl (rowLd (p := [(1000, Obj.cells false [V.lst (L.map encZ) .unk])]) (N := 1001) (opn := true) (cs := ints xs) hp rfl (v := .int .i64 y) (by rw [Nat.zero_add, Nat.mul_one]; exact ints_get hy)) rfl ?_
   refine DW.callH (by repeat (first | exact .nil | refine PendR.passM rfl ?_ | refine PendR.sameM rfl ?_ | refine PendR.lightM rfl ?_)) rfl rfl rfl rfl rfl (less_spec L x y ex ey hex hey (by decide) rfl) .base rfl (DW.runS [] 1000 _ _ _ _ _ _ rfl ?_)
   refine DW.finS (by repeat (first | exact .nil | refine PendR.passM rfl ?_ | refine PendR.sameM rfl ?_ | refine PendR.lightM rfl ?_)) ?_
   have hc : cmpF ey.last ex.last < 0 ↔ K y < K x := by
    rw [ky, kx]
    unfold cmpF
    split
    ·omega
    ·split <;> omega
   refine WR.cond rfl (fun h1 => ?_) (fun h1 => ?_)
   ·have h1 := hc.1 (of_decide_eq_true h1)
    have hs : sinkF K a (j + 1) xs = sinkF K a j ((xs.set (j + 1) y).set j x) := by
     show (match xs[j]?, xs[j + 1]? with | some y, some x => if j + 1 > a ∧ K y < K x then sinkF K a j ((xs.set (j + 1) y).set j x) else xs | _, _ => xs) = _
     rw [hy, hx1]
     simp only
     rw [if_pos ⟨ha, h1⟩]
    rw [hs] at hx
    have hlen2 : ∀ zs : List Nat, zs.length = n → (ints zs).length = n := fun zs hz => by simp [ints, hz]
    refine WR.skip ?_
    refine WR.seq (WR.block (WR.dreg hmix2 (DW.runS [] 8 _ _ _ _ _ _ rfl ?_)))
    rw [show IntKind.i64.wrap (((j + 1 : Nat) : Int) - 1) = (j : Int) from by rw [wrap64 (by omega) (by omega)]; omega]
    refine DW.pureS rfl (fun h => rowIa rfl rfl (by omega : j < n)) rfl ?_
    refine DW.lightS rfl (rowLd (p := [(1000, Obj.cells false [V.lst (L.map encZ) .unk])]) (N := 1001) (opn := true) (cs := ints xs) hp rfl (v := .int .i64 y) (by rw [Nat.zero_add, Nat.mul_one]; exact ints_get hy)) rfl (DW.runS [] 2 _ _ _ _ _ _ rfl ?_)
    refine DW.pureS rfl (fun h => rowIa rfl rfl hj) rfl ?_
    refine DW.lightS rfl (rowLd (p := [(1000, Obj.cells false [V.lst (L.map encZ) .unk])]) (N := 1001) (opn := true) (cs := ints xs) hp rfl (v := .int .i64 x) (by rw [Nat.zero_add, Nat.mul_one]; exact ints_get hx1)) rfl ?_
    refine DW.pureS rfl (fun h => rowIa rfl rfl hj) rfl ?_
    refine DW.stS (by repeat (first | exact .nil | refine PendR.passM rfl ?_ | refine PendR.sameM rfl ?_ | refine PendR.lightM rfl ?_)) rfl rfl (rowSt (p := [(1000, Obj.cells false [V.lst (L.map encZ) .unk])]) (N := 1001) (opn := true) (cs := ints xs) (cs' := ints (xs.set (j + 1) y)) hp (by decide) rfl rfl rfl (by rw [Nat.zero_add, Nat.mul_one, hlen2 xs hlen]; exact hj) (by rw [Nat.zero_add, Nat.mul_one]; exact ints_set xs (j + 1) y)) rfl ?_
    refine DW.pureS rfl (fun h => rowIa rfl rfl (by omega : j < n)) rfl ?_
    refine DW.stS (by repeat (first | exact .nil | refine PendR.passM rfl ?_ | refine PendR.sameM rfl ?_ | refine PendR.lightM rfl ?_)) rfl rfl (rowSt (p := [(1000, Obj.cells false [V.lst (L.map encZ) .unk])]) (N := 1001) (opn := true) (cs := ints (xs.set (j + 1) y)) (cs' := ints ((xs.set (j + 1) y).set j x)) hp (by decide) rfl rfl rfl (by rw [Nat.zero_add, Nat.mul_one, hlen2 _ (by rw [List.length_set]; exact hlen)]; omega) (by rw [Nat.zero_add, Nat.mul_one]; exact ints_set _ j x)) rfl ?_
    refine DW.runS [] 1000 _ _ _ _ _ _ rfl ?_
    refine DW.finS (by repeat (first | exact .nil | refine PendR.passM rfl ?_ | refine PendR.sameM rfl ?_ | refine PendR.lightM rfl ?_)) ?_
    unfold rc82_J1
    repeat (first | refine WR.seq ?_ | refine WR.block ?_ | refine WR.scope ?_ | refine WR.skip ?_ | refine WR.exit ?_ | refine WR.condT rfl ?_ | refine WR.condF rfl ?_ | refine WR.reg (WQ.runS [] 1000 _ _ _ _ rfl ?_) | refine WQ.nilS ?_ | refine WR.dreg hmix (DW.runS [] 1000 _ _ _ _ _ _ rfl ?_))
    rw [show IntKind.i64.wrap (((j + 1 : Nat) : Int) - 1) = (j : Int) from by rw [wrap64 (by omega) (by omega)]; omega]
    have ih' := ih ((xs.set (j + 1) y).set j x) (by simp [hlen]) (fun z hz => by
     rcases List.mem_or_eq_of_mem_set hz with h | h
     ·rcases List.mem_or_eq_of_mem_set h with h | h
      ·exact hin z h
      ·rw [h]; exact hin y (List.mem_of_getElem? hy)
     ·rw [h]; exact hin x (List.mem_of_getElem? hx1)) (by omega) hx
    refine WIr.again (WLr.weak ?_ ih')
    refine SW.tellR ?_ ?_
    ·repeat (first | exact .nil | refine .cons rfl (.v (VLe.refl _)) ?_ | refine .cons rfl (.l _ _ rfl) ?_ | refine .cons rfl (.v (VLe.unk _ _)) ?_)
    ·repeat (first | exact .nil | refine .cons rfl (.inl rfl) ?_)
   ·have h1 : ¬ K y < K x := fun q => of_decide_eq_false h1 (hc.2 q)
    have hs : sinkF K a (j + 1) xs = xs := by
     show (match xs[j]?, xs[j + 1]? with | some y, some x => if j + 1 > a ∧ K y < K x then sinkF K a j ((xs.set (j + 1) y).set j x) else xs | _, _ => xs) = _
     rw [hy, hx1]
     simp only
     rw [if_neg (fun q => h1 q.2)]
    rw [hs] at hx
    repeat (first | refine WR.seq ?_ | refine WR.block ?_ | refine WR.scope ?_ | refine WR.skip ?_ | refine WR.exit ?_ | refine WR.condT rfl ?_ | refine WR.condF rfl ?_ | refine WR.reg (WQ.runS [] 1000 _ _ _ _ rfl ?_) | refine WQ.nilS ?_ | refine WR.dreg hmix (DW.runS [] 1000 _ _ _ _ _ _ rfl ?_))
    exact hx _ rfl rfl rfl rfl rfl
  ·rw [show decide (((j + 1 : Nat) : Int) > (a : Int)) = false from decide_eq_false (by omega)]
   refine DW.runS [] 1000 _ _ _ _ _ _ rfl ?_
   refine DW.skipS (by repeat (first | exact .nil | refine PendR.passM rfl ?_ | refine PendR.sameM rfl ?_ | refine PendR.lightM rfl ?_)) rfl rfl (DW.runS [] 1000 _ _ _ _ _ _ rfl ?_)
   refine DW.finS (by repeat (first | exact .nil | refine PendR.passM rfl ?_ | refine PendR.sameM rfl ?_ | refine PendR.lightM rfl ?_)) ?_
   repeat (first | refine WR.seq ?_ | refine WR.block ?_ | refine WR.scope ?_ | refine WR.skip ?_ | refine WR.exit ?_ | refine WR.condT rfl ?_ | refine WR.condF rfl ?_ | refine WR.reg (WQ.runS [] 1000 _ _ _ _ rfl ?_) | refine WQ.nilS ?_ | refine WR.dreg hmix (DW.runS [] 1000 _ _ _ _ _ _ rfl ?_))
   have : sinkF K a (j + 1) xs = xs := by simp only [sinkF, hy, hx1]; rw [if_neg (by omega)]
   rw [this] at hx
   exact hx _ rfl rfl rfl rfl rfl
end Go.VM
