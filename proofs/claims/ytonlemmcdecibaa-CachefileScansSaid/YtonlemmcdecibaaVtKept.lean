/- laid for this seat: VtKept -/
import Derived.Test.YtonlemmcdecibaaVtStable
import Derived.Test.YtonlemmcdecibaaVmR
/- What the program keeps: the entries that live, sorted. -/
set_option maxRecDepth 100000
set_option linter.unusedVariables false
set_option linter.unusedSimpArgs false
namespace Go.VM
open Go.RowKit
theorem sort_lift (L : List EZ) (K : Nat → Int) (n : Nat) (hn : n ≤ 4000) (hK : ∀ x e, L[x]? = some e → K x = e.last) (xs : List Nat) (hg : GoodP L n xs) {h : H} {c r : Nat} (hcr : c ≠ r) (hc : glim ≤ c) (hr : glim ≤ r)
  (hoc : h.ob c = some (.cells false [.lst (L.map encZ) .unk])) (hor : h.ob r = some (.cells true (ints xs))) :
  SCall Go.Proofs.Try.prog [] 65 [.sl r 0 n (.op 1), .fn (.func 66) [] [.ptr c 0]] none h (.ret (.tup [])) none (h.put r (.cells true (ints (stableF K n xs)))) := by
 have hri : ∀ (ρ : Nat → Nat) (zs : List Nat), rens ρ (ints zs) = ints zs := by
  intro ρ zs
  induction zs with
  | nil => rfl
  | cons z zs ih => show _ :: rens ρ (ints zs) = _; rw [ih]; rfl
 refine SCall.frameL (n := 0) [c, r] rfl (sort_core L K n hn hK xs hg) (by simp [hcr]) (by simp [hc, hr]) (fun k => ?_) rfl (fun k d o hk ho => ?_) (by exact ⟨⟨⟨encZs_in _, trivial⟩, trivial⟩, ints_in _, trivial⟩) (by exact ⟨(by show 1001 < glim + 2; decide), ⟨trivial, trivial, (by show 1000 < glim + 2; decide), trivial⟩, trivial⟩) (by exact trivial) (by exact ⟨⟨⟨encZs_in _, trivial⟩, trivial⟩, ints_in _, trivial⟩) rfl rfl rfl rfl (fun k hk => ?_) (fun d hd => ?_)
 ·simp only [sol, og_cons]
  show _ ↔ 1000 ≤ k ∧ k < 1002
  split
  ·simp; omega
  ·split
   ·simp; omega
   ·simp [og]; omega
 ·match k, hk with
  | 0, hk =>
   cases hk; cases ho
   rw [hoc]
   show some _ = some (Obj.cells false [V.lst (renss _ (L.map encZ)) _])
   rw [renss_encZ]; rfl
  | 1, hk =>
   cases hk; cases ho
   rw [hor]
   show some _ = some (Obj.cells true (rens _ (ints xs)))
   rw [hri]
 ·have hk : k < 2 := hk
  match k, hk with
  | 0, _ =>
   show (if c = r then _ else h.ob c) = some (Obj.cells false [V.lst (renss _ (L.map encZ)) _])
   rw [if_neg hcr, renss_encZ]; exact hoc
  | 1, _ =>
   show (if r = r then _ else h.ob r) = some (Obj.cells true (rens _ (ints _)))
   rw [if_pos rfl, hri]
 ·have h1 := hd 1 (by show 1 < 2; decide)
  have h1 : r ≠ d := h1
  show (if d = r then _ else h.ob d) = _
  rw [if_neg (fun e => h1 e.symm)]
theorem sortNil_core (L : List EZ) :
  SCall Go.Proofs.Try.prog [] 65 [.lst [] (.ex 0), .fn (.func 66) [] [.ptr 1000 0]] none ⟨1001, og [(1000, .cells false [.lst (L.map encZ) .unk])], []⟩ (.ret (.tup [])) none ⟨1001, og [(1000, .cells false [.lst (L.map encZ) .unk])], []⟩ := by
 have hin : olIn (· < 1001) [(1000, .cells false [.lst (L.map encZ) .unk])] := ⟨⟨⟨encZs_in _, trivial⟩, trivial⟩, trivial⟩
 have h82 : SCall Go.Proofs.Try.prog [] 82 [.lst [] (.ex 0), .int .i64 0, .int .i64 0, .fn (.func 66) [] [.ptr 1000 0]] none ⟨1001, og [(1000, .cells false [.lst (L.map encZ) .unk])], []⟩ (.ret (.tup [])) none ⟨1001, og [(1000, .cells false [.lst (L.map encZ) .unk])], []⟩ := by
  refine SCall.listed (fn := Go.Proofs.Try.f82) (by kernel_rfl) res82 (by kernel_rfl) (by kernel_rfl) (Nat.le_refl _) rfl (hin) trivial ?_
  unfold rc82
  refine WR.seq (WR.reg (WQ.runS [] 1000 _ _ _ _ rfl (WQ.nilS ?_)))
  refine WR.block (WR.loop ?_)
  unfold rc82_L2
  refine WLr.of ?_
  refine WR.seq (WR.seq (WR.reg (WQ.runS [] 1000 _ _ _ _ rfl (WQ.nilS ?_))))
  refine WR.condF rfl (WR.exit ?_)
  exact ⟨rfl, rfl, ⟨_, rfl, VLe.refl _⟩, fun b _ => rfl⟩
 have h78 : SCall Go.Proofs.Try.prog [] 78 [.lst [] (.ex 0), .int .i64 0, .fn (.func 66) [] [.ptr 1000 0]] none ⟨1001, og [(1000, .cells false [.lst (L.map encZ) .unk])], []⟩ (.ret (.tup [])) none ⟨1001, og [(1000, .cells false [.lst (L.map encZ) .unk])], []⟩ := by
  refine SCall.listed (fn := Go.Proofs.Try.f78) (by kernel_rfl) res78 (by kernel_rfl) (by kernel_rfl) (Nat.le_refl _) rfl (hin) trivial ?_
  unfold rc78
  refine WR.seq (WR.reg (WQ.runS [] 1000 _ _ _ _ rfl (WQ.nilS ?_)))
  refine WR.seq (WR.reg (WQ.runS [] 1000 _ _ _ _ rfl (WQ.nilS ?_)))
  refine WR.seq (WR.block (WR.loop ?_))
  unfold rc78_L1
  refine WLr.of ?_
  refine WR.seq (WR.seq (WR.reg (WQ.runS [] 1000 _ _ _ _ rfl (WQ.nilS ?_))))
  refine WR.condF rfl (WR.exit ?_)
  unfold rc78_J3
  refine WR.seq (WR.reg (WQ.runS [] 4 _ _ _ _ rfl ?_))
  refine WQ.callH rfl rfl rfl rfl rfl h82 .base rfl (WQ.runS [] 1000 _ _ _ _ rfl (WQ.nilS ?_))
  refine WR.block (WR.loop ?_)
  unfold rc78_L3
  refine WLr.of ?_
  refine WR.seq (WR.seq (WR.reg (WQ.runS [] 1000 _ _ _ _ rfl (WQ.nilS ?_))))
  refine WR.condF rfl (WR.exit ?_)
  exact ⟨rfl, rfl, ⟨_, rfl, VLe.refl _⟩, fun b _ => rfl⟩
 refine SCall.listed (fn := Go.Proofs.Try.f65) (by kernel_rfl) res65 (by kernel_rfl) (by kernel_rfl) (Nat.le_refl _) rfl (hin) trivial ?_
 unfold rc65
 refine WR.reg (WQ.runS [] 4 _ _ _ _ rfl ?_)
 refine WQ.callH rfl rfl rfl rfl rfl h78 .base rfl (WQ.runS [] 1000 _ _ _ _ rfl (WQ.nilS ?_))
 exact ⟨rfl, rfl, ⟨_, rfl, VLe.refl _⟩, fun b _ => rfl⟩
def liveF : List EZ → Nat → List Nat
 | [], _ => []
 | e :: l, i => if e.live then i :: liveF l (i + 1) else liveF l (i + 1)
def lvI : List Nat → V
 | [] => .lst [] (.ex 0)
 | _ :: l => .sl (1001 + l.length) 0 (l.length + 1) (.op 1)
def rowI : List Nat → OL
 | [] => []
 | x :: l => [(1001 + l.length, .cells true (ints (x :: l)))]
def nxI (l : List Nat) : Nat := 1001 + l.length
def preI (L : List EZ) : OL := [(1000, .cells false [.lst (L.map encZ) .unk])]
theorem preI_lt {L : List EZ} {N : Nat} (h : 1001 ≤ N) : keysLt (preI L) N := by
 intro e he
 simp only [preI, List.mem_singleton] at he
 subst he; simp only; omega
theorem ints_app (xs ys : List Nat) : ints (xs ++ ys) = ints xs ++ ints ys := by simp [ints]
theorem ints_len (xs : List Nat) : (ints xs).length = xs.length := by simp [ints]
theorem live_app {nt : Nat} {tm : TM} {x y : RX} {z : List V} {c : LC} {lc : LM} (L : List EZ) (l : List Nat) (e : Nat) (hl : l.length ≤ 4000) (hx : rv [] tm x = some (lvI l)) (hy : rv [] tm y = some (.lst [[.int .i64 (e : Int)]] c)) :
  DoesR Go.Proofs.Try.prog [] nt tm ⟨nxI l, og (preI L ++ rowI l), lc⟩ (some (.app x y 1 8 z)) (.v (lvI (l ++ [e]))) ⟨nxI (l ++ [e]), og (preI L ++ rowI (l ++ [e])), lc⟩ := by
 cases l with
 | nil => exact rowApp0 (p := preI L) (nx := 1001) (preI_lt (Nat.le_refl _)) hx hy (fun e he => by simp at he; subst he; rfl) (by simp) (by simp [lim]) rfl rfl
 | cons e0 l =>
  have := rowApp (P := Go.Proofs.Try.prog) (gl := []) (nt := nt) (tm := tm) (x := x) (y := y) (z := z) (lc := lc) (bytes := 8) (p := preI L) (N := 1001 + l.length) (nx := 1001 + (l.length + 1)) (n := l.length + 1) (n2 := (l ++ [e]).length + 1) (sz := 1) (opn := true) (cs := ints (e0 :: l)) (fs := [[.int .i64 (e : Int)]]) (fl := ints (e0 :: (l ++ [e]))) (preI_lt (by omega)) (by show 1000 ≤ _; omega) (by omega) hx (by rw [ints_len]; simp) (by omega) hy (fun e he => by simp at he; subst he; rfl) (by simp) (by simp [lim] at hl ⊢; omega) (by simp) (by rw [← List.cons_append, ints_app]; rfl)
  have e1 : nxI (e0 :: l ++ [e]) = 1001 + (l.length + 1) + 1 := by simp [nxI]; omega
  have e2 : lvI (e0 :: l ++ [e]) = .sl (1001 + (l.length + 1)) 0 ((l ++ [e]).length + 1) (.op 1) := by simp [lvI]
  have e3 : rowI (e0 :: l ++ [e]) = [(1001 + (l.length + 1), .cells true (ints (e0 :: (l ++ [e]))))] := by simp [rowI]
  rw [e1, e2, e3]
  exact this
def l1Tm (L : List EZ) (most bytes : Int) (xs : List Nat) (i : Nat) : TM := [(1, .v (.int .i64 most)), (2, .v (.int .i64 bytes)), (3, .v (.ptr 1000 0)), (6, .v (.lst [] (.ex 0))), (7, .v (lvI xs)), (13, .v (.lst (L.map encZ) .unk)), (14, .v (.int .i64 L.length)), (15, .v (.int .i64 i))]
theorem live_loop {QN : S → Prop} {QX : X → S → Prop} (L : List EZ) (most bytes : Int) (hL : L.length ≤ 4000) : ∀ (m i : Nat) (xs : List Nat), i + m = L.length → xs.length ≤ i →
  (∀ tm ys, ys = xs ++ liveF (L.drop i) i → tg tm 1 = some (.v (.int .i64 most)) → tg tm 2 = some (.v (.int .i64 bytes)) → tg tm 3 = some (.v (.ptr 1000 0)) → tg tm 6 = some (.v (.lst [] (.ex 0))) → tg tm 7 = some (.v (lvI ys)) → QX (.exit 0) (SL.toS ⟨tm, [], none, nxI ys, preI L ++ rowI ys, []⟩)) →
  WLr Go.Proofs.Try.prog [] ⟨Go.Proofs.Try.f39.ntmps, none, 39⟩ rc39_L1 (SL.toS ⟨l1Tm L most bytes xs i, [], none, nxI xs, preI L ++ rowI xs, []⟩) QN QX := by
 intro m
 induction m with
 | zero =>
  intro i xs hi hlen hx
  unfold rc39_L1
  refine WLr.of ?_
  refine WR.seq (WR.reg (WQ.runS [] 1000 _ _ _ _ rfl (WQ.nilS ?_)))
  rw [show decide ((i : Int) < (L.length : Int)) = false from decide_eq_false (by omega)]
  refine WR.seq (WR.condF rfl (WR.exit ?_))
  refine hx _ xs ?_ rfl rfl rfl rfl rfl
  rw [List.drop_eq_nil_iff.2 (by omega)]; simp [liveF]
 | succ m ih =>
  intro i xs hi hlen hx
  obtain ⟨e, he⟩ : ∃ e, L[i]? = some e := ⟨_, List.getElem?_eq_getElem (by omega)⟩
  have hd : L.drop i = e :: L.drop (i + 1) := by
   rw [List.drop_eq_getElem_cons (by omega)]
   congr 1
   rw [List.getElem?_eq_getElem (by omega)] at he; exact Option.some.inj he
  rw [hd] at hx
  have hg : (L.map encZ)[i]? = some (encZ e) := by rw [List.getElem?_map, he]; rfl
  unfold rc39_L1
  refine WLr.of ?_
  refine WR.seq (WR.reg (WQ.runS [] 1000 _ _ _ _ rfl (WQ.nilS ?_)))
  rw [show decide ((i : Int) < (L.length : Int)) = true from decide_eq_true (by omega)]
  refine WR.seq (WR.condT rfl (WR.skip ?_))
  refine WR.seq (WR.block (WR.seq (WR.reg (WQ.runS [] 1 _ _ _ _ rfl ?_))))
  refine WQ.lightS rfl rfl rfl (ia_at rfl rfl hg rfl) rfl ?_
  refine WQ.runS [] 1000 _ _ _ _ rfl (WQ.nilS ?_)
  refine WR.seq (WR.reg (WQ.runS [] 1000 _ _ _ _ rfl (WQ.nilS ?_)))
  cases hlv : e.live with
  | true =>
   have hl : liveF (e :: L.drop (i + 1)) i = i :: liveF (L.drop (i + 1)) (i + 1) := by simp [liveF, hlv]
   refine WR.condT rfl (WR.reg (WQ.runS [] 3 _ _ _ _ rfl ?_))
   refine WQ.doesS rfl (live_app L xs i (by omega) rfl rfl) rfl ?_
   refine WQ.runS [] 1000 _ _ _ _ rfl (WQ.nilS ?_)
   unfold rc39_J1
   repeat (first | refine WR.seq ?_ | refine WR.block ?_ | refine WR.scope ?_ | refine WR.skip ?_ | refine WR.exit ?_ | refine WR.condT rfl ?_ | refine WR.condF rfl ?_ | refine WR.reg (WQ.runS [] 1000 _ _ _ _ rfl ?_) | refine WQ.nilS ?_ | refine WR.dreg hmix (DW.runS [] 1000 _ _ _ _ _ _ rfl ?_))
   rw [show IntKind.i64.wrap ((i : Int) + 1) = ((i + 1 : Nat) : Int) from by rw [wrap64 (by omega) (by omega)]; rfl]
   refine WIr.again (WLr.weak ?_ (ih (i + 1) (xs ++ [i]) (by omega) (by simp; omega) (fun tm ys hys => hx tm ys (by rw [hys, hl]; simp))))
   refine SW.tellR ?_ ?_
   ·repeat (first | exact .nil | refine .cons rfl (.v (VLe.refl _)) ?_ | refine .cons rfl (.l _ _ rfl) ?_ | refine .cons rfl (.v (VLe.unk _ _)) ?_)
   ·repeat (first | exact .nil | refine .cons rfl (.inl rfl) ?_)
  | false =>
   have hl : liveF (e :: L.drop (i + 1)) i = liveF (L.drop (i + 1)) (i + 1) := by simp [liveF, hlv]
   refine WR.condF rfl (WR.skip ?_)
   unfold rc39_J1
   repeat (first | refine WR.seq ?_ | refine WR.block ?_ | refine WR.scope ?_ | refine WR.skip ?_ | refine WR.exit ?_ | refine WR.condT rfl ?_ | refine WR.condF rfl ?_ | refine WR.reg (WQ.runS [] 1000 _ _ _ _ rfl ?_) | refine WQ.nilS ?_ | refine WR.dreg hmix (DW.runS [] 1000 _ _ _ _ _ _ rfl ?_))
   rw [show IntKind.i64.wrap ((i : Int) + 1) = ((i + 1 : Nat) : Int) from by rw [wrap64 (by omega) (by omega)]; rfl]
   refine WIr.again (WLr.weak ?_ (ih (i + 1) xs (by omega) (by omega) (fun tm ys hys => hx tm ys (by rw [hys, hl]))))
   refine SW.tellR ?_ ?_
   ·repeat (first | exact .nil | refine .cons rfl (.v (VLe.refl _)) ?_ | refine .cons rfl (.l _ _ rfl) ?_ | refine .cons rfl (.v (VLe.unk _ _)) ?_)
   ·repeat (first | exact .nil | refine .cons rfl (.inl rfl) ?_)
end Go.VM
