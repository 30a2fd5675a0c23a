/- laid for this seat: VtRunR VrCmp VrIns VrSwap -/
import Derived.Test.YtonlemmcdecibaaVg04
section
/- The document's Run. -/
set_option maxRecDepth 100000
set_option linter.unusedVariables false
set_option linter.unusedSimpArgs false
namespace Go.VM
open Go.RowKit
def sizeZ (e : EZ) : Nat := e.k.length + e.v.length
end Go.VM
end
section
/- How the program compares entries. -/
set_option maxRecDepth 100000
set_option linter.unusedVariables false
set_option linter.unusedSimpArgs false
namespace Go.VM
open Go.RowKit
theorem sizeP_spec (e : EZ) (h1 : e.k.length + e.v.length < 9223372036854775808) (h : H) : SCall Go.Proofs.Try.prog [] 68 [.agg (encZ e)] none h (.ret (.int .i64 ((e.k.length + e.v.length : Nat) : Int))) none h := by
 refine SCall.pure0 rfl ?_ (by exact ⟨⟨trivial, trivial, trivial, trivial, trivial⟩, trivial⟩) (by exact trivial) h
 refine SCall.listed (fn := Go.Proofs.Try.f68) (by kernel_rfl) res68 (by kernel_rfl) (by kernel_rfl) (Nat.le_refl _) rfl (trivial) trivial ?_
 unfold rc68
 refine WR.seq (WR.reg (WQ.runS [] 1000 _ _ _ _ rfl (WQ.nilS ?_)))
 refine WR.seq (WR.reg (WQ.runS [] 1000 _ _ _ _ rfl (WQ.nilS ?_)))
 rw [show IntKind.i64.wrap ((e.k.length : Int) + (e.v.length : Int)) = ((e.k.length + e.v.length : Nat) : Int) from by rw [wrap64 (by omega) (by omega)]; simp]
 refine WR.ret ⟨rfl, rfl, ⟨_, rfl, VLe.refl _⟩, fun b _ => rfl⟩
theorem nan_spec (a : Int) (h : H) : SCall Go.Proofs.Try.prog [] 79 [.int .i64 a] none h (.ret (.bool false)) none h := by
 refine SCall.pure0 rfl ?_ (by exact ⟨trivial, trivial⟩) (by exact trivial) h
 refine SCall.listed (fn := Go.Proofs.Try.f79) (by kernel_rfl) res79 (by kernel_rfl) (by kernel_rfl) (Nat.le_refl _) rfl (trivial) trivial ?_
 unfold rc79
 refine WR.seq (WR.reg (WQ.runS [] 1000 _ _ _ _ rfl (WQ.nilS ?_)))
 refine WR.seq (WR.reg (WQ.runS [] 1000 _ _ _ _ rfl (WQ.nilS ?_)))
 rw [show decide (a = a) = true from decide_eq_true rfl]
 refine WR.ret ⟨rfl, rfl, ⟨_, rfl, VLe.refl _⟩, fun b _ => rfl⟩
def cmpF (a b : Int) : Int := if a < b then -1 else if a > b then 1 else 0
theorem cmp_spec (a b : Int) (h : H) : SCall Go.Proofs.Try.prog [] 67 [.int .i64 a, .int .i64 b] none h (.ret (.int .i64 (cmpF a b))) none h := by
 refine SCall.pure0 rfl ?_ (by exact ⟨trivial, trivial, trivial⟩) (by exact trivial) h
 refine SCall.listed (fn := Go.Proofs.Try.f67) (by kernel_rfl) res67 (by kernel_rfl) (by kernel_rfl) (Nat.le_refl _) rfl (trivial) trivial ?_
 unfold rc67
 refine WR.seq (WR.reg (WQ.runS [] 1000 _ _ _ _ rfl (WQ.nilS ?_)))
 refine WR.seq (WR.reg (WQ.runS [] 1 _ _ _ _ rfl ?_))
 refine WQ.callH rfl rfl rfl rfl rfl (nan_spec a _) .base rfl (WQ.runS [] 1000 _ _ _ _ rfl (WQ.nilS ?_))
 refine WR.seq (WR.reg (WQ.runS [] 1 _ _ _ _ rfl ?_))
 refine WQ.callH rfl rfl rfl rfl rfl (nan_spec b _) .base rfl (WQ.runS [] 1000 _ _ _ _ rfl (WQ.nilS ?_))
 repeat (first | refine WR.seq ?_ | refine WR.block ?_ | refine WR.scope ?_ | refine WR.skip ?_ | refine WR.exit ?_ | refine WR.condT rfl ?_ | refine WR.condF rfl ?_ | refine WR.reg (WQ.runS [] 1000 _ _ _ _ rfl ?_) | refine WQ.nilS ?_ | refine WR.dreg hmix (DW.runS [] 1000 _ _ _ _ _ _ rfl ?_))
 refine WR.cond rfl (fun h1 => ?_) (fun h1 => ?_)
 ·have h1 := of_decide_eq_true h1
  rw [show cmpF a b = -1 from by unfold cmpF; rw [if_pos h1]]
  repeat (first | refine WR.seq ?_ | refine WR.block ?_ | refine WR.scope ?_ | refine WR.skip ?_ | refine WR.exit ?_ | refine WR.condT rfl ?_ | refine WR.condF rfl ?_ | refine WR.reg (WQ.runS [] 1000 _ _ _ _ rfl ?_) | refine WQ.nilS ?_ | refine WR.dreg hmix (DW.runS [] 1000 _ _ _ _ _ _ rfl ?_))
  refine WR.ret ⟨rfl, rfl, ⟨_, rfl, VLe.refl _⟩, fun b _ => rfl⟩
 ·have h1 := of_decide_eq_false h1
  repeat (first | refine WR.seq ?_ | refine WR.block ?_ | refine WR.scope ?_ | refine WR.skip ?_ | refine WR.exit ?_ | refine WR.condT rfl ?_ | refine WR.condF rfl ?_ | refine WR.reg (WQ.runS [] 1000 _ _ _ _ rfl ?_) | refine WQ.nilS ?_ | refine WR.dreg hmix (DW.runS [] 1000 _ _ _ _ _ _ rfl ?_))
  refine WR.cond rfl (fun h2 => ?_) (fun h2 => ?_)
  ·have h2 := of_decide_eq_true h2
   rw [show cmpF a b = 1 from by unfold cmpF; rw [if_neg h1, if_pos h2]]
   repeat (first | refine WR.seq ?_ | refine WR.block ?_ | refine WR.scope ?_ | refine WR.skip ?_ | refine WR.exit ?_ | refine WR.condT rfl ?_ | refine WR.condF rfl ?_ | refine WR.reg (WQ.runS [] 1000 _ _ _ _ rfl ?_) | refine WQ.nilS ?_ | refine WR.dreg hmix (DW.runS [] 1000 _ _ _ _ _ _ rfl ?_))
   refine WR.ret ⟨rfl, rfl, ⟨_, rfl, VLe.refl _⟩, fun b _ => rfl⟩
  ·have h2 := of_decide_eq_false h2
   rw [show cmpF a b = 0 from by unfold cmpF; rw [if_neg h1, if_neg h2]]
   repeat (first | refine WR.seq ?_ | refine WR.block ?_ | refine WR.scope ?_ | refine WR.skip ?_ | refine WR.exit ?_ | refine WR.condT rfl ?_ | refine WR.condF rfl ?_ | refine WR.reg (WQ.runS [] 1000 _ _ _ _ rfl ?_) | refine WQ.nilS ?_ | refine WR.dreg hmix (DW.runS [] 1000 _ _ _ _ _ _ rfl ?_))
   refine WR.ret ⟨rfl, rfl, ⟨_, rfl, VLe.refl _⟩, fun b _ => rfl⟩
def flatZ (L : List EZ) : List V := (L.map encZ).flatten
theorem flatZ_cons (e : EZ) (L : List EZ) : flatZ (e :: L) = [.str e.k, .str e.v, .bool e.live, .int .i64 e.last] ++ flatZ L := rfl
theorem flatZ_len : ∀ L : List EZ, (flatZ L).length = L.length * 4
 | [] => rfl
 | e :: L => by rw [flatZ_cons, List.length_append, flatZ_len L]; simp; omega
theorem flatZ_get : ∀ (L : List EZ) (n : Nat) (e : EZ) (k : Nat), k < 4 → L[n]? = some e → (flatZ L)[n * 4 + k]? = (encZ e)[k]?
 | [], n, e, k, _, h => by simp at h
 | a :: L, 0, e, k, hk, h => by
  simp at h; subst h
  rw [flatZ_cons, List.getElem?_append_left (by simp; omega)]
  rw [Nat.zero_mul, Nat.zero_add]; rfl
 | a :: L, n + 1, e, k, hk, h => by
  rw [flatZ_cons, List.getElem?_append_right (by simp; omega)]
  have := flatZ_get L n e k hk (by simpa using h)
  rw [← this]; congr 1; simp; omega
theorem flatZ_ren {ρ : Nat → Nat} : ∀ L : List EZ, rens ρ (flatZ L) = flatZ L
 | [] => rfl
 | e :: L => by show _ :: _ :: _ :: _ :: rens ρ (flatZ L) = _; rw [flatZ_ren L]; rfl
theorem flatZ_in {D : Nat → Prop} : ∀ L : List EZ, Ins D (flatZ L)
 | [] => trivial
 | _ :: L => ⟨trivial, trivial, trivial, trivial, flatZ_in L⟩
theorem atLd {gl : List Nat} {nt : Nat} {tm : TM} {x : RX} {v : V} {opn : Bool} {N o nx : Nat} {cs : List V} {lc : LM} {ol : OL} (hx : rvt gl tm x = some (.v (.ptr N o))) (hob : og ol N = some (.cells opn cs)) (hc : cs[o]? = some v) :
  LightR Go.Proofs.Try.prog gl nt tm ⟨nx, og ol, lc⟩ (some (.ld x none)) (.v v) := by
 refine lightX_sound ?_
 simp only [lightX, rl, hx, ldA, hob, partC, hc]
 rfl
theorem less_core (L : List EZ) (i j : Nat) (ei ej : EZ) (hi : L[i]? = some ei) (hj : L[j]? = some ej) :
  SCall Go.Proofs.Try.prog [] 66 [.int .i64 i, .int .i64 j, .ptr 1001 0] none ⟨1002, og [(1000, .cells true (flatZ L)), (1001, .cells false [.sl 1000 0 L.length (.op 4)])], []⟩ (.ret (.int .i64 (cmpF ej.last ei.last))) none ⟨1002, og [(1000, .cells true (flatZ L)), (1001, .cells false [.sl 1000 0 L.length (.op 4)])], []⟩ := by
 have l1 := (List.getElem?_eq_some_iff.1 hi).1
 have l2 := (List.getElem?_eq_some_iff.1 hj).1
 have g1 : (flatZ L)[0 + i * 4 + 3]? = some (.int .i64 ei.last) := by rw [Nat.zero_add, flatZ_get L i ei 3 (by omega) hi]; rfl
 have g2 : (flatZ L)[0 + j * 4 + 3]? = some (.int .i64 ej.last) := by rw [Nat.zero_add, flatZ_get L j ej 3 (by omega) hj]; rfl
 refine SCall.listed (fn := Go.Proofs.Try.f66) (by kernel_rfl) res66 (by kernel_rfl) (by kernel_rfl) (Nat.le_refl _) rfl ((by exact ⟨flatZ_in _, ⟨(by show 1000 < 1002; decide), trivial⟩, trivial⟩)) trivial ?_
 unfold rc66
 refine WR.seq (WR.reg (WQ.runS [] 1000 _ _ _ _ rfl (WQ.nilS ?_)))
 refine WR.seq (WR.dreg hmix2 (DW.runS [] 2 _ _ _ _ _ _ rfl ?_))
 refine DW.pureS rfl (fun h => rowIa rfl rfl l2) rfl (DW.runS [] 1 _ _ _ _ _ _ rfl ?_)
 refine DW.lightS rfl (atLd rfl rfl g2) rfl (DW.runS [] 2 _ _ _ _ _ _ rfl ?_)
 refine DW.pureS rfl (fun h => rowIa rfl rfl l1) rfl (DW.runS [] 1 _ _ _ _ _ _ rfl ?_)
 refine DW.lightS rfl (atLd rfl rfl g1) rfl (DW.runS [] 1000 _ _ _ _ _ _ rfl ?_)
 refine DW.callH (by repeat (first | exact .nil | refine PendR.passM rfl ?_ | refine PendR.sameM rfl ?_ | refine PendR.lightM rfl ?_)) rfl rfl rfl rfl rfl (cmp_spec _ _ _) .base rfl (DW.runS [] 1000 _ _ _ _ _ _ rfl ?_)
 refine DW.finS (by repeat (first | exact .nil | refine PendR.passM rfl ?_ | refine PendR.sameM rfl ?_ | refine PendR.lightM rfl ?_)) ?_
 refine WR.ret ⟨rfl, rfl, ⟨_, rfl, VLe.refl _⟩, fun b _ => rfl⟩
theorem less_spec (L : List EZ) (i j : Nat) (ei ej : EZ) (hi : L[i]? = some ei) (hj : L[j]? = some ej) {h : H} {r c : Nat} (hr : glim ≤ r) (hc : glim ≤ c) (hrc : r ≠ c) (hor : h.ob r = some (.cells true (flatZ L))) (hob : h.ob c = some (.cells false [.sl r 0 L.length (.op 4)])) :
  SCall Go.Proofs.Try.prog [] 66 [.int .i64 i, .int .i64 j, .ptr c 0] none h (.ret (.int .i64 (cmpF ej.last ei.last))) none h := by
 refine SCall.frameL (n := 0) [r, c] rfl (less_core L i j ei ej hi hj) (by simp [hrc]) (by simp [hr, hc]) (fun k => ?_) rfl (fun k d o hk ho => ?_) (by exact ⟨flatZ_in _, ⟨(by show 1000 < glim + 2; decide), trivial⟩, trivial⟩) (by exact ⟨trivial, trivial, (by show 1001 < glim + 2; decide), trivial⟩) (by exact trivial) (by exact ⟨flatZ_in _, ⟨(by show 1000 < glim + 2; decide), trivial⟩, trivial⟩) rfl rfl rfl rfl (fun k hk => ?_) (fun d hd => rfl)
 ·simp only [og_cons]
  show _ ↔ 1000 ≤ k ∧ k < 1002
  split
  ·simp; omega
  ·split
   ·simp; omega
   ·simp [og]; omega
 ·match k, hk with
  | 0, hk =>
   cases hk; cases ho
   rw [hor]
   show some _ = some (Obj.cells true (rens _ (flatZ L)))
   rw [flatZ_ren]
  | 1, hk =>
   cases hk; cases ho
   rw [hob]; rfl
 ·have hk : k < 2 := hk
  match k, hk with
  | 0, _ =>
   show h.ob r = some (Obj.cells true (rens _ (flatZ L)))
   rw [flatZ_ren]; exact hor
  | 1, _ => exact hob
def ints (xs : List Nat) : List V := xs.map fun (x : Nat) => V.int .i64 (x : Int)
def sol (L : List EZ) (xs : List Nat) : OL := [(1000, .cells true (flatZ L)), (1001, .cells false [.sl 1000 0 L.length (.op 4)]), (1002, .cells true (ints xs))]
theorem ints_get {xs : List Nat} {j x : Nat} (h : xs[j]? = some x) : (ints xs)[j]? = some (.int .i64 x) := by simp [ints, h]
theorem ints_set (xs : List Nat) (j x : Nat) : (ints xs).set j (.int .i64 x) = ints (xs.set j x) := by simp [ints, List.map_set]
def sinkF (K : Nat → Int) (a : Nat) : Nat → List Nat → List Nat
 | 0, xs => xs
 | j + 1, xs => match xs[j]?, xs[j + 1]? with
  | some y, some x => if j + 1 > a ∧ K y < K x then sinkF K a j ((xs.set (j + 1) y).set j x) else xs
  | _, _ => xs
def sTm (a b i j n : Nat) : TM := [(0, .v (.sl 1002 0 n (.op 1))), (1, .v (.int .i64 a)), (2, .v (.int .i64 b)), (3, .v (.fn (.func 66) [] [.ptr 1001 0])), (8, .v (.int .i64 i)), (9, .v (.int .i64 j))]
theorem DW.skipS {gl : List Nat} {fr : Fr} {ds : List Nat} {anc : Nat} {hs : List (RI × List RI)} {es : List ER} {r : RI} {l2 : List RI} {tm tm1 : TM} {df : List AD} {u : Option AMode} {nx : Nat} {ol : OL} {lc : LM} {QN : S → Prop} {QX : X → S → Prop} (pd : PendR Go.Proofs.Try.prog gl fr.nt ⟨nx, og ol, lc⟩ anc es) (hw : wantR r.gd (tsub tm r.rd) = some false) (hp : putT fr.nt tm r.dst (.v undefV) = some tm1)
  (h : DW Go.Proofs.Try.prog gl fr ds l2 r.anc hs (SL.toS ⟨tm1, df, u, nx, ol, lc⟩) es QN QX) : DW Go.Proofs.Try.prog gl fr ds [] anc ((r, l2) :: hs) (SL.toS ⟨tm, df, u, nx, ol, lc⟩) es QN QX := DW.skip (s := SL.toS ⟨tm, df, u, nx, ol, lc⟩) pd hw hp h
theorem sink_loop {QN : S → Prop} {QX : X → S → Prop} (L : List EZ) (K : Nat → Int) (a b i n : Nat) (hn : n ≤ 100000)
  (hK : ∀ x e, L[x]? = some e → K x = e.last) : ∀ (j : Nat) (xs : List Nat), xs.length = n → (∀ x ∈ xs, x < L.length) → j < n →
  (∀ tm, tg tm 0 = some (.v (.sl 1002 0 n (.op 1))) → tg tm 1 = some (.v (.int .i64 a)) → tg tm 2 = some (.v (.int .i64 b)) → tg tm 3 = some (.v (.fn (.func 66) [] [.ptr 1001 0])) → tg tm 8 = some (.v (.int .i64 i)) → QX (.exit 2) (SL.toS ⟨tm, [], none, 1003, sol L (sinkF K a j xs), []⟩)) →
  WLr Go.Proofs.Try.prog [] ⟨Go.Proofs.Try.f82.ntmps, none, 82⟩ rc82_L1 (SL.toS ⟨sTm a b i j n, [], none, 1003, sol L xs, []⟩) QN QX := by
 have hp : keysLt [(1000, Obj.cells true (flatZ L)), (1001, Obj.cells false [V.sl 1000 0 L.length (.op 4)])] 1002 := by intro e he; simp at he; rcases he with rfl | rfl <;> simp
 intro j
 induction j with
 | zero =>
  intro xs hlen hin hj hx
  unfold rc82_L1
  refine WLr.of ?_
  refine WR.seq (WR.seq (WR.dreg hmix2 (DW.runS [] 4 _ _ _ _ _ _ rfl ?_)))
  rw [show decide (((0 : Nat) : Int) > (a : Int)) = false from decide_eq_false (by omega)]
  refine DW.runS [] 1000 _ _ _ _ _ _ rfl ?_
  refine DW.skipS (by repeat (first | exact .nil | refine PendR.passM rfl ?_ | refine PendR.sameM rfl ?_ | refine PendR.lightM rfl ?_)) rfl rfl (DW.runS [] 1000 _ _ _ _ _ _ rfl ?_)
  refine DW.finS (by repeat (first | exact .nil | refine PendR.passM rfl ?_ | refine PendR.sameM rfl ?_ | refine PendR.lightM rfl ?_)) ?_
  repeat (first | refine WR.seq ?_ | refine WR.block ?_ | refine WR.scope ?_ | refine WR.skip ?_ | refine WR.exit ?_ | refine WR.condT rfl ?_ | refine WR.condF rfl ?_ | refine WR.reg (WQ.runS [] 1000 _ _ _ _ rfl ?_) | refine WQ.nilS ?_ | refine WR.dreg hmix (DW.runS [] 1000 _ _ _ _ _ _ rfl ?_))
  exact hx _ rfl rfl rfl rfl rfl
 | succ j ih =>
  intro xs hlen hin hj hx
  obtain ⟨y, hy⟩ : ∃ y, xs[j]? = some y := ⟨_, List.getElem?_eq_getElem (by omega)⟩
  obtain ⟨x, hx1⟩ : ∃ x, xs[j + 1]? = some x := ⟨_, List.getElem?_eq_getElem (by omega)⟩
  obtain ⟨ey, hey⟩ : ∃ e, L[y]? = some e := ⟨_, List.getElem?_eq_getElem (hin y (List.mem_of_getElem? hy))⟩
  obtain ⟨ex, hex⟩ : ∃ e, L[x]? = some e := ⟨_, List.getElem?_eq_getElem (hin x (List.mem_of_getElem? hx1))⟩
  have ky := hK y ey hey
  have kx := hK x ex hex
  unfold rc82_L1
  refine WLr.of ?_
  refine WR.seq (WR.seq (WR.dreg hmix2 (DW.runS [] 4 _ _ _ _ _ _ rfl ?_)))
  by_cases ha : j + 1 > a
  ·rw [show decide (((j + 1 : Nat) : Int) > (a : Int)) = true from decide_eq_true (by omega)]
   refine DW.runS [] 3 _ _ _ _ _ _ rfl ?_
   refine DW.pureS rfl (fun h => rowIa rfl rfl hj) rfl ?_
   refine DW.lightS rfl (rowLd (p := [(1000, Obj.cells true (flatZ L)), (1001, Obj.cells false [V.sl 1000 0 L.length (.op 4)])]) (N := 1002) (opn := true) (cs := ints xs) hp rfl (v := .int .i64 x) (by rw [Nat.zero_add, Nat.mul_one]; exact ints_get hx1)) rfl (DW.runS [] 3 _ _ _ _ _ _ rfl ?_)
   rw [show IntKind.i64.wrap (((j + 1 : Nat) : Int) - 1) = (j : Int) from by rw [wrap64 (by omega) (by omega)]; omega]
   refine DW.pureS rfl (fun h => rowIa rfl rfl (by omega : j < n)) rfl ?_
   refine DW.lightS rfl (rowLd (p := [(1000, Obj.cells true (flatZ L)), (1001, Obj.cells false [V.sl 1000 0 L.length (.op 4)])]) (N := 1002) (opn := true) (cs := ints xs) hp rfl (v := .int .i64 y) (by rw [Nat.zero_add, Nat.mul_one]; exact ints_get hy)) rfl ?_
   refine DW.callH (by repeat (first | exact .nil | refine PendR.passM rfl ?_ | refine PendR.sameM rfl ?_ | refine PendR.lightM rfl ?_)) rfl rfl rfl rfl rfl (less_spec L x y ex ey hex hey (by decide) (by decide) (by decide) rfl rfl) .base rfl (DW.runS [] 1000 _ _ _ _ _ _ rfl ?_)
   refine DW.finS (by repeat (first | exact .nil | refine PendR.passM rfl ?_ | refine PendR.sameM rfl ?_ | refine PendR.lightM rfl ?_)) ?_
   have hc : cmpF ey.last ex.last < 0 ↔ K y < K x := by
    rw [ky, kx]
    unfold cmpF
    split
    ·omega
    ·split <;> omega
   refine WR.cond rfl (fun h1 => ?_) (fun h1 => ?_)
   ·have h1 := hc.1 (of_decide_eq_true h1)
    have hs : sinkF K a (j + 1) xs = sinkF K a j ((xs.set (j + 1) y).set j x) := by
     show (match xs[j]?, xs[j + 1]? with | some y, some x => if j + 1 > a ∧ K y < K x then sinkF K a j ((xs.set (j + 1) y).set j x) else xs | _, _ => xs) = _
     rw [hy, hx1]
     simp only
     rw [if_pos ⟨ha, h1⟩]
    rw [hs] at hx
    have hlen2 : ∀ zs : List Nat, zs.length = n → (ints zs).length = n := fun zs hz => by simp [ints, hz]
    refine WR.skip ?_
    refine WR.seq (WR.block (WR.dreg hmix2 (DW.runS [] 8 _ _ _ _ _ _ rfl ?_)))
    rw [show IntKind.i64.wrap (((j + 1 : Nat) : Int) - 1) = (j : Int) from by rw [wrap64 (by omega) (by omega)]; omega]
    refine DW.pureS rfl (fun h => rowIa rfl rfl (by omega : j < n)) rfl ?_
    refine DW.lightS rfl (rowLd (p := [(1000, Obj.cells true (flatZ L)), (1001, Obj.cells false [V.sl 1000 0 L.length (.op 4)])]) (N := 1002) (opn := true) (cs := ints xs) hp rfl (v := .int .i64 y) (by rw [Nat.zero_add, Nat.mul_one]; exact ints_get hy)) rfl (DW.runS [] 2 _ _ _ _ _ _ rfl ?_)
    refine DW.pureS rfl (fun h => rowIa rfl rfl hj) rfl ?_
    refine DW.lightS rfl (rowLd (p := [(1000, Obj.cells true (flatZ L)), (1001, Obj.cells false [V.sl 1000 0 L.length (.op 4)])]) (N := 1002) (opn := true) (cs := ints xs) hp rfl (v := .int .i64 x) (by rw [Nat.zero_add, Nat.mul_one]; exact ints_get hx1)) rfl ?_
    refine DW.pureS rfl (fun h => rowIa rfl rfl hj) rfl ?_
    refine DW.stS (by repeat (first | exact .nil | refine PendR.passM rfl ?_ | refine PendR.sameM rfl ?_ | refine PendR.lightM rfl ?_)) rfl rfl (rowSt (p := [(1000, Obj.cells true (flatZ L)), (1001, Obj.cells false [V.sl 1000 0 L.length (.op 4)])]) (N := 1002) (opn := true) (cs := ints xs) (cs' := ints (xs.set (j + 1) y)) hp (by decide) rfl rfl rfl (by rw [Nat.zero_add, Nat.mul_one, hlen2 xs hlen]; exact hj) (by rw [Nat.zero_add, Nat.mul_one]; exact ints_set xs (j + 1) y)) rfl ?_
    refine DW.pureS rfl (fun h => rowIa rfl rfl (by omega : j < n)) rfl ?_
    refine DW.stS (by repeat (first | exact .nil | refine PendR.passM rfl ?_ | refine PendR.sameM rfl ?_ | refine PendR.lightM rfl ?_)) rfl rfl (rowSt (p := [(1000, Obj.cells true (flatZ L)), (1001, Obj.cells false [V.sl 1000 0 L.length (.op 4)])]) (N := 1002) (opn := true) (cs := ints (xs.set (j + 1) y)) (cs' := ints ((xs.set (j + 1) y).set j x)) hp (by decide) rfl rfl rfl (by rw [Nat.zero_add, Nat.mul_one, hlen2 _ (by rw [List.length_set]; exact hlen)]; omega) (by rw [Nat.zero_add, Nat.mul_one]; exact ints_set _ j x)) rfl ?_
    refine DW.runS [] 1000 _ _ _ _ _ _ rfl ?_
    refine DW.finS (by repeat (first | exact .nil | refine PendR.passM rfl ?_ | refine PendR.sameM rfl ?_ | refine PendR.lightM rfl ?_)) ?_
    unfold rc82_J1
    repeat (first | refine WR.seq ?_ | refine WR.block ?_ | refine WR.scope ?_ | refine WR.skip ?_ | refine WR.exit ?_ | refine WR.condT rfl ?_ | refine WR.condF rfl ?_ | refine WR.reg (WQ.runS [] 1000 _ _ _ _ rfl ?_) | refine WQ.nilS ?_ | refine WR.dreg hmix (DW.runS [] 1000 _ _ _ _ _ _ rfl ?_))
    rw [show IntKind.i64.wrap (((j + 1 : Nat) : Int) - 1) = (j : Int) from by rw [wrap64 (by omega) (by omega)]; omega]
    have ih' := ih ((xs.set (j + 1) y).set j x) (by simp [hlen]) (fun z hz => by
     rcases List.mem_or_eq_of_mem_set hz with h | h
     ·rcases List.mem_or_eq_of_mem_set h with h | h
      ·exact hin z h
      ·rw [h]; exact hin y (List.mem_of_getElem? hy)
     ·rw [h]; exact hin x (List.mem_of_getElem? hx1)) (by omega) hx
    refine WIr.again (WLr.weak ?_ ih')
    refine SW.tellR ?_ ?_
    ·repeat (first | exact .nil | refine .cons rfl (.v (VLe.refl _)) ?_ | refine .cons rfl (.l _ _ rfl) ?_ | refine .cons rfl (.v (VLe.unk _ _)) ?_)
    ·repeat (first | exact .nil | refine .cons rfl (.inl rfl) ?_)
   ·have h1 : ¬ K y < K x := fun q => of_decide_eq_false h1 (hc.2 q)
    have hs : sinkF K a (j + 1) xs = xs := by
     show (match xs[j]?, xs[j + 1]? with | some y, some x => if j + 1 > a ∧ K y < K x then sinkF K a j ((xs.set (j + 1) y).set j x) else xs | _, _ => xs) = _
     rw [hy, hx1]
     simp only
     rw [if_neg (fun q => h1 q.2)]
    rw [hs] at hx
    repeat (first | refine WR.seq ?_ | refine WR.block ?_ | refine WR.scope ?_ | refine WR.skip ?_ | refine WR.exit ?_ | refine WR.condT rfl ?_ | refine WR.condF rfl ?_ | refine WR.reg (WQ.runS [] 1000 _ _ _ _ rfl ?_) | refine WQ.nilS ?_ | refine WR.dreg hmix (DW.runS [] 1000 _ _ _ _ _ _ rfl ?_))
    exact hx _ rfl rfl rfl rfl rfl
  ·rw [show decide (((j + 1 : Nat) : Int) > (a : Int)) = false from decide_eq_false (by omega)]
   refine DW.runS [] 1000 _ _ _ _ _ _ rfl ?_
   refine DW.skipS (by repeat (first | exact .nil | refine PendR.passM rfl ?_ | refine PendR.sameM rfl ?_ | refine PendR.lightM rfl ?_)) rfl rfl (DW.runS [] 1000 _ _ _ _ _ _ rfl ?_)
   refine DW.finS (by repeat (first | exact .nil | refine PendR.passM rfl ?_ | refine PendR.sameM rfl ?_ | refine PendR.lightM rfl ?_)) ?_
   repeat (first | refine WR.seq ?_ | refine WR.block ?_ | refine WR.scope ?_ | refine WR.skip ?_ | refine WR.exit ?_ | refine WR.condT rfl ?_ | refine WR.condF rfl ?_ | refine WR.reg (WQ.runS [] 1000 _ _ _ _ rfl ?_) | refine WQ.nilS ?_ | refine WR.dreg hmix (DW.runS [] 1000 _ _ _ _ _ _ rfl ?_))
   have : sinkF K a (j + 1) xs = xs := by simp only [sinkF, hy, hx1]; rw [if_neg (by omega)]
   rw [this] at hx
   exact hx _ rfl rfl rfl rfl rfl
end Go.VM
end
section
/- Insertion sort, as the library does it. -/
set_option maxRecDepth 100000
set_option linter.unusedVariables false
set_option linter.unusedSimpArgs false
namespace Go.VM
open Go.RowKit
theorem sinkF_len (K : Nat → Int) (a : Nat) : ∀ (j : Nat) (xs : List Nat), (sinkF K a j xs).length = xs.length
 | 0, xs => rfl
 | j + 1, xs => by
  unfold sinkF
  split
  ·split
   ·rw [sinkF_len K a j]; simp
   ·rfl
  ·rfl
theorem sinkF_mem (K : Nat → Int) (a : Nat) : ∀ (j : Nat) (xs : List Nat) (z : Nat), z ∈ sinkF K a j xs → z ∈ xs
 | 0, xs, z, h => h
 | j + 1, xs, z, h => by
  unfold sinkF at h
  split at h
  ·rename_i y x hy hx
   split at h
   ·have := sinkF_mem K a j _ z h
    rcases List.mem_or_eq_of_mem_set this with g | g
    ·rcases List.mem_or_eq_of_mem_set g with g | g
     ·exact g
     ·rw [g]; exact List.mem_of_getElem? hy
    ·rw [g]; exact List.mem_of_getElem? hx
   ·exact h
  ·exact h
def insG (K : Nat → Int) (a : Nat) : Nat → Nat → List Nat → List Nat
 | 0, _, xs => xs
 | m + 1, i, xs => insG K a m (i + 1) (sinkF K a i xs)
def iTm (a b i n : Nat) : TM := [(0, .v (.sl 1002 0 n (.op 1))), (1, .v (.int .i64 a)), (2, .v (.int .i64 b)), (3, .v (.fn (.func 66) [] [.ptr 1001 0])), (8, .v (.int .i64 i))]
theorem ins_loop {QN : S → Prop} {QX : X → S → Prop} (L : List EZ) (K : Nat → Int) (a b n : Nat) (hn : n ≤ 100000) (hb : b ≤ n) (hK : ∀ x e, L[x]? = some e → K x = e.last) : ∀ (m i : Nat) (xs : List Nat), i + m = max i b → xs.length = n → (∀ x ∈ xs, x < L.length) → i ≤ 100001 →
  (∀ tm, QX (.exit 0) (SL.toS ⟨tm, [], none, 1003, sol L (insG K a m i xs), []⟩)) →
  WLr Go.Proofs.Try.prog [] ⟨Go.Proofs.Try.f82.ntmps, none, 82⟩ rc82_L2 (SL.toS ⟨iTm a b i n, [], none, 1003, sol L xs, []⟩) QN QX := by
 intro m
 induction m with
 | zero =>
  intro i xs hi hlen hin hi5 hx
  unfold rc82_L2
  refine WLr.of ?_
  refine WR.seq (WR.seq (WR.reg (WQ.runS [] 1000 _ _ _ _ rfl (WQ.nilS ?_))))
  rw [show decide ((i : Int) < (b : Int)) = false from decide_eq_false (by omega)]
  repeat (first | refine WR.seq ?_ | refine WR.block ?_ | refine WR.scope ?_ | refine WR.skip ?_ | refine WR.exit ?_ | refine WR.condT rfl ?_ | refine WR.condF rfl ?_ | refine WR.reg (WQ.runS [] 1000 _ _ _ _ rfl ?_) | refine WQ.nilS ?_ | refine WR.dreg hmix (DW.runS [] 1000 _ _ _ _ _ _ rfl ?_))
  exact hx _
 | succ m ih =>
  intro i xs hi hlen hin hi5 hx
  unfold rc82_L2
  refine WLr.of ?_
  refine WR.seq (WR.seq (WR.reg (WQ.runS [] 1000 _ _ _ _ rfl (WQ.nilS ?_))))
  rw [show decide ((i : Int) < (b : Int)) = true from decide_eq_true (by omega)]
  refine WR.condT rfl (WR.skip ?_)
  refine WR.seq (WR.block (WR.seq (WR.reg (WQ.runS [] 1000 _ _ _ _ rfl (WQ.nilS ?_)))))
  refine WR.block (WR.loop (WLr.weak (s := SL.toS ⟨sTm a b i i n, [], none, 1003, sol L xs, []⟩) ?_ (sink_loop L K a b i n hn hK i xs hlen hin (by omega) (fun tm t0 t1 t2 t3 t8 => ?_))))
  ·refine SW.tellR ?_ ?_
   ·repeat (first | exact .nil | refine .cons rfl (.v (VLe.refl _)) ?_ | refine .cons rfl (.l _ _ rfl) ?_ | refine .cons rfl (.v (VLe.unk _ _)) ?_)
   ·repeat (first | exact .nil | refine .cons rfl (.inl rfl) ?_)
  refine WR.weak (s := SL.toS ⟨iTm a b i n, [], none, 1003, sol L (sinkF K a i xs), []⟩) (SW.tellR (.cons t0 (.v (VLe.refl _)) (.cons t1 (.v (VLe.refl _)) (.cons t2 (.v (VLe.refl _)) (.cons t3 (.v (VLe.refl _)) (.cons t8 (.v (VLe.refl _)) .nil))))) .nil) ?_
  unfold rc82_J2
  repeat (first | refine WR.seq ?_ | refine WR.block ?_ | refine WR.scope ?_ | refine WR.skip ?_ | refine WR.exit ?_ | refine WR.condT rfl ?_ | refine WR.condF rfl ?_ | refine WR.reg (WQ.runS [] 1000 _ _ _ _ rfl ?_) | refine WQ.nilS ?_ | refine WR.dreg hmix (DW.runS [] 1000 _ _ _ _ _ _ rfl ?_))
  rw [show IntKind.i64.wrap ((i : Int) + 1) = ((i + 1 : Nat) : Int) from by rw [wrap64 (by omega) (by omega)]; rfl]
  have ih' := ih (i + 1) (sinkF K a i xs) (by omega) (by rw [sinkF_len]; exact hlen) (fun x hx => hin x (sinkF_mem K a i xs x hx)) (by omega) hx
  refine WIr.again (WLr.weak ?_ ih')
  refine SW.tellR ?_ ?_
  ·repeat (first | exact .nil | refine .cons rfl (.v (VLe.refl _)) ?_ | refine .cons rfl (.l _ _ rfl) ?_ | refine .cons rfl (.v (VLe.unk _ _)) ?_)
  ·repeat (first | exact .nil | refine .cons rfl (.inl rfl) ?_)
theorem ins_core (L : List EZ) (K : Nat → Int) (a b n : Nat) (hn : n ≤ 100000) (hb : b ≤ n) (ha : a ≤ 100000) (hK : ∀ x e, L[x]? = some e → K x = e.last) (xs : List Nat) (hlen : xs.length = n) (hin : ∀ x ∈ xs, x < L.length) :
  SCall Go.Proofs.Try.prog [] 82 [.sl 1002 0 n (.op 1), .int .i64 a, .int .i64 b, .fn (.func 66) [] [.ptr 1001 0]] none ⟨1003, og (sol L xs), []⟩ (.ret (.tup [])) none ⟨1003, og (sol L (insG K a (b - (a + 1)) (a + 1) xs)), []⟩ := by
 have hints : ∀ zs : List Nat, Ins (· < 1003) (ints zs) := by
  intro zs
  induction zs with
  | nil => trivial
  | cons z zs ih => exact ⟨trivial, ih⟩
 refine SCall.listed (fn := Go.Proofs.Try.f82) (by kernel_rfl) res82 (by kernel_rfl) (by kernel_rfl) (Nat.le_refl _) rfl ((by exact ⟨flatZ_in _, ⟨(by show 1000 < 1003; decide), trivial⟩, hints _, trivial⟩)) trivial ?_
 unfold rc82
 refine WR.seq (WR.reg (WQ.runS [] 1000 _ _ _ _ rfl (WQ.nilS ?_)))
 rw [show IntKind.i64.wrap ((a : Int) + 1) = ((a + 1 : Nat) : Int) from by rw [wrap64 (by omega) (by omega)]; rfl]
 refine WR.block (WR.loop (WLr.weak (s := SL.toS ⟨iTm a b (a + 1) n, [], none, 1003, sol L xs, []⟩) ?_ (ins_loop L K a b n hn hb hK (b - (a + 1)) (a + 1) xs (by omega) hlen hin (by omega) (fun tm => ?_))))
 ·refine SW.tellR ?_ ?_
  ·repeat (first | exact .nil | refine .cons rfl (.v (VLe.refl _)) ?_ | refine .cons rfl (.l _ _ rfl) ?_ | refine .cons rfl (.v (VLe.unk _ _)) ?_)
  ·repeat (first | exact .nil | refine .cons rfl (.inl rfl) ?_)
 ·exact ⟨rfl, rfl, ⟨_, rfl, VLe.refl _⟩, fun b _ => rfl⟩
end Go.VM
end
section
/- Ranges that are swapped. -/
set_option maxRecDepth 100000
set_option linter.unusedVariables false
set_option linter.unusedSimpArgs false
namespace Go.VM
open Go.RowKit
def swG (a b : Nat) : Nat → Nat → List Nat → List Nat
 | 0, _, xs => xs
 | m + 1, i, xs => match xs[a + i]?, xs[b + i]? with
  | some x, some y => swG a b m (i + 1) ((xs.set (a + i) y).set (b + i) x)
  | _, _ => xs
theorem swG_len (a b : Nat) : ∀ (m i : Nat) (xs : List Nat), (swG a b m i xs).length = xs.length
 | 0, i, xs => rfl
 | m + 1, i, xs => by
  unfold swG
  split
  ·rw [swG_len a b m]; simp
  ·rfl
theorem swG_mem (a b : Nat) : ∀ (m i : Nat) (xs : List Nat) (z : Nat), z ∈ swG a b m i xs → z ∈ xs
 | 0, i, xs, z, h => h
 | m + 1, i, xs, z, h => by
  unfold swG at h
  split at h
  ·rename_i x y hx hy
   have := swG_mem a b m (i + 1) _ z h
   rcases List.mem_or_eq_of_mem_set this with g | g
   ·rcases List.mem_or_eq_of_mem_set g with g | g
    ·exact g
    ·rw [g]; exact List.mem_of_getElem? hy
   ·rw [g]; exact List.mem_of_getElem? hx
  ·exact h
def wTm (a b k i n : Nat) : TM := [(0, .v (.sl 1002 0 n (.op 1))), (1, .v (.int .i64 a)), (2, .v (.int .i64 b)), (3, .v (.int .i64 k)), (10, .v (.int .i64 i))]
theorem swap_loop {QN : S → Prop} {QX : X → S → Prop} (L : List EZ) (a b k n : Nat) (hn : n ≤ 100000) (ha : a + k ≤ n) (hb : b + k ≤ n) : ∀ (m i : Nat) (xs : List Nat), i + m = k → xs.length = n →
  (∀ tm, QX (.exit 0) (SL.toS ⟨tm, [], none, 1003, sol L (swG a b m i xs), []⟩)) →
  WLr Go.Proofs.Try.prog [] ⟨Go.Proofs.Try.f85.ntmps, none, 85⟩ rc85_L1 (SL.toS ⟨wTm a b k i n, [], none, 1003, sol L xs, []⟩) QN QX := by
 have hp : keysLt [(1000, Obj.cells true (flatZ L)), (1001, Obj.cells false [V.sl 1000 0 L.length (.op 4)])] 1002 := by intro e he; simp at he; rcases he with rfl | rfl <;> simp
 have hlen2 : ∀ zs : List Nat, zs.length = n → (ints zs).length = n := fun zs hz => by simp [ints, hz]
 intro m
 induction m with
 | zero =>
  intro i xs hi hlen hx
  unfold rc85_L1
  refine WLr.of ?_
  refine WR.seq (WR.seq (WR.reg (WQ.runS [] 1000 _ _ _ _ rfl (WQ.nilS ?_))))
  rw [show decide ((i : Int) < (k : Int)) = false from decide_eq_false (by omega)]
  repeat (first | refine WR.seq ?_ | refine WR.block ?_ | refine WR.scope ?_ | refine WR.skip ?_ | refine WR.exit ?_ | refine WR.condT rfl ?_ | refine WR.condF rfl ?_ | refine WR.reg (WQ.runS [] 1000 _ _ _ _ rfl ?_) | refine WQ.nilS ?_ | refine WR.dreg hmix (DW.runS [] 1000 _ _ _ _ _ _ rfl ?_))
  exact hx _
 | succ m ih =>
  intro i xs hi hlen hx
  obtain ⟨x, hx1⟩ : ∃ x, xs[a + i]? = some x := ⟨_, List.getElem?_eq_getElem (by omega)⟩
  obtain ⟨y, hy⟩ : ∃ y, xs[b + i]? = some y := ⟨_, List.getElem?_eq_getElem (by omega)⟩
  have hs : swG a b (m + 1) i xs = swG a b m (i + 1) ((xs.set (a + i) y).set (b + i) x) := by
   show (match xs[a + i]?, xs[b + i]? with | some x, some y => swG a b m (i + 1) ((xs.set (a + i) y).set (b + i) x) | _, _ => xs) = _
   rw [hx1, hy]
  rw [hs] at hx
  unfold rc85_L1
  refine WLr.of ?_
  refine WR.seq (WR.seq (WR.reg (WQ.runS [] 1000 _ _ _ _ rfl (WQ.nilS ?_))))
  rw [show decide ((i : Int) < (k : Int)) = true from decide_eq_true (by omega)]
  refine WR.condT rfl (WR.skip ?_)
  refine WR.seq (WR.block (WR.dreg hmix2 (DW.runS [] 12 _ _ _ _ _ _ rfl ?_)))
  rw [show IntKind.i64.wrap ((b : Int) + (i : Int)) = ((b + i : Nat) : Int) from by rw [wrap64 (by omega) (by omega)]; simp, show IntKind.i64.wrap ((a : Int) + (i : Int)) = ((a + i : Nat) : Int) from by rw [wrap64 (by omega) (by omega)]; simp]
  refine DW.pureS rfl (fun h => rowIa rfl rfl (by omega : b + i < n)) rfl ?_
  refine DW.lightS rfl (rowLd (p := [(1000, Obj.cells true (flatZ L)), (1001, Obj.cells false [V.sl 1000 0 L.length (.op 4)])]) (N := 1002) (opn := true) (cs := ints xs) hp rfl (v := .int .i64 y) (by rw [Nat.zero_add, Nat.mul_one]; exact ints_get hy)) rfl (DW.runS [] 4 _ _ _ _ _ _ rfl ?_)
  rw [show IntKind.i64.wrap ((a : Int) + (i : Int)) = ((a + i : Nat) : Int) from by rw [wrap64 (by omega) (by omega)]; simp]
  refine DW.pureS rfl (fun h => rowIa rfl rfl (by omega : a + i < n)) rfl ?_
  refine DW.lightS rfl (rowLd (p := [(1000, Obj.cells true (flatZ L)), (1001, Obj.cells false [V.sl 1000 0 L.length (.op 4)])]) (N := 1002) (opn := true) (cs := ints xs) hp rfl (v := .int .i64 x) (by rw [Nat.zero_add, Nat.mul_one]; exact ints_get hx1)) rfl ?_
  refine DW.pureS rfl (fun h => rowIa rfl rfl (by omega : a + i < n)) rfl ?_
  refine DW.stS (by repeat (first | exact .nil | refine PendR.passM rfl ?_ | refine PendR.sameM rfl ?_ | refine PendR.lightM rfl ?_)) rfl rfl (rowSt (p := [(1000, Obj.cells true (flatZ L)), (1001, Obj.cells false [V.sl 1000 0 L.length (.op 4)])]) (N := 1002) (opn := true) (cs := ints xs) (cs' := ints (xs.set (a + i) y)) hp (by decide) rfl rfl rfl (by rw [Nat.zero_add, Nat.mul_one, hlen2 xs hlen]; omega) (by rw [Nat.zero_add, Nat.mul_one]; exact ints_set xs (a + i) y)) rfl ?_
  refine DW.pureS rfl (fun h => rowIa rfl rfl (by omega : b + i < n)) rfl ?_
  refine DW.stS (by repeat (first | exact .nil | refine PendR.passM rfl ?_ | refine PendR.sameM rfl ?_ | refine PendR.lightM rfl ?_)) rfl rfl (rowSt (p := [(1000, Obj.cells true (flatZ L)), (1001, Obj.cells false [V.sl 1000 0 L.length (.op 4)])]) (N := 1002) (opn := true) (cs := ints (xs.set (a + i) y)) (cs' := ints ((xs.set (a + i) y).set (b + i) x)) hp (by decide) rfl rfl rfl (by rw [Nat.zero_add, Nat.mul_one, hlen2 _ (by rw [List.length_set]; exact hlen)]; omega) (by rw [Nat.zero_add, Nat.mul_one]; exact ints_set _ (b + i) x)) rfl ?_
  refine DW.runS [] 1000 _ _ _ _ _ _ rfl ?_
  refine DW.finS (by repeat (first | exact .nil | refine PendR.passM rfl ?_ | refine PendR.sameM rfl ?_ | refine PendR.lightM rfl ?_)) ?_
  unfold rc85_J1
  repeat (first | refine WR.seq ?_ | refine WR.block ?_ | refine WR.scope ?_ | refine WR.skip ?_ | refine WR.exit ?_ | refine WR.condT rfl ?_ | refine WR.condF rfl ?_ | refine WR.reg (WQ.runS [] 1000 _ _ _ _ rfl ?_) | refine WQ.nilS ?_ | refine WR.dreg hmix (DW.runS [] 1000 _ _ _ _ _ _ rfl ?_))
  rw [show IntKind.i64.wrap ((i : Int) + 1) = ((i + 1 : Nat) : Int) from by rw [wrap64 (by omega) (by omega)]; rfl]
  refine WIr.again (WLr.weak ?_ (ih (i + 1) ((xs.set (a + i) y).set (b + i) x) (by omega) (by simp [hlen]) hx))
  refine SW.tellR ?_ ?_
  ·repeat (first | exact .nil | refine .cons rfl (.v (VLe.refl _)) ?_ | refine .cons rfl (.l _ _ rfl) ?_ | refine .cons rfl (.v (VLe.unk _ _)) ?_)
  ·repeat (first | exact .nil | refine .cons rfl (.inl rfl) ?_)
theorem ints_in {N : Nat} : ∀ zs : List Nat, Ins (· < N) (ints zs)
 | [] => trivial
 | _ :: zs => ⟨trivial, ints_in zs⟩
theorem swap_core (L : List EZ) (a b k n : Nat) (hn : n ≤ 100000) (ha : a + k ≤ n) (hb : b + k ≤ n) (xs : List Nat) (hlen : xs.length = n) :
  SCall Go.Proofs.Try.prog [] 85 [.sl 1002 0 n (.op 1), .int .i64 a, .int .i64 b, .int .i64 k, .fn (.func 66) [] [.ptr 1001 0]] none ⟨1003, og (sol L xs), []⟩ (.ret (.tup [])) none ⟨1003, og (sol L (swG a b k 0 xs)), []⟩ := by
 refine SCall.listed (fn := Go.Proofs.Try.f85) (by kernel_rfl) res85 (by kernel_rfl) (by kernel_rfl) (Nat.le_refl _) rfl ((by exact ⟨flatZ_in _, ⟨(by show 1000 < 1003; decide), trivial⟩, ints_in _, trivial⟩)) trivial ?_
 unfold rc85
 refine WR.seq (WR.reg (WQ.runS [] 1000 _ _ _ _ rfl (WQ.nilS ?_)))
 refine WR.block (WR.loop (WLr.weak (s := SL.toS ⟨wTm a b k 0 n, [], none, 1003, sol L xs, []⟩) ?_ (swap_loop L a b k n hn ha hb k 0 xs (by omega) hlen (fun tm => ?_))))
 ·refine SW.tellR ?_ ?_
  ·repeat (first | exact .nil | refine .cons rfl (.v (VLe.refl _)) ?_ | refine .cons rfl (.l _ _ rfl) ?_ | refine .cons rfl (.v (VLe.unk _ _)) ?_)
  ·repeat (first | exact .nil | refine .cons rfl (.inl rfl) ?_)
 ·exact ⟨rfl, rfl, ⟨_, rfl, VLe.refl _⟩, fun b _ => rfl⟩
end Go.VM
end
