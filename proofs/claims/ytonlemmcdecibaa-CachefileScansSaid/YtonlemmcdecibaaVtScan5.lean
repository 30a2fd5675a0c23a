/- laid for this seat: VtScan5 -/
import Derived.Test.YtonlemmcdecibaaVtScan4
import Derived.Test.YtonlemmcdecibaaVmR
/- The cache's file: Scan over any memory. -/
set_option maxRecDepth 100000
set_option linter.unusedVariables false
set_option linter.unusedSimpArgs false
namespace Go.VM
open Go.RowKit
theorem SCall.le {P : Program} {gl : List Nat} {f : FuncId} {args : List V} {u u' : Option AMode} {h h' : H} {v v2 : V} (s : SCall P gl f args u h (.ret v) u' h') (hv : ∀ E x, AR E v x → AR E v2 x) : SCall P gl f args u h (.ret v2) u' h' := by
 refine ⟨s.lc, s.fn, fun E F w0 w args' kind cs hF m g ra hu => ?_⟩
 obtain ⟨E', F', w', cs', fr', a1, a2, a3, a4, a5, a6, a7, a8, a9, a10, a11, a12, z1, fnr, x, z2, z3, z4⟩ := s.run E F w0 w args' kind cs hF m g ra hu
 exact ⟨E', F', w', cs', fr', a1, a2, a3, a4, a5, a6, a7, a8, a9, a10, a11, a12, z1, fnr, x, z2, z3, hv _ _ z4⟩
def scanV (b : List Nat) : V := .tup [.lst ((scanR b).1.l.map encE) .unk, .int .i64 (scanR b).1.good]
theorem encEs_in {D : Nat → Prop} (l : List Ent) : Inss D (l.map encE) := Inss_map fun x _ => ⟨trivial, trivial, trivial, trivial, trivial⟩
theorem scan_core2 (b : List Nat) (hlen : b.length ≤ 4000) (h8 : ∀ x ∈ b, x < 256) :
  SCall Go.Proofs.Try.prog [] 12 [.str b] none ⟨1000, og [], []⟩ (.ret (scanV b)) none ⟨nxF (scanR b).1.l, og [], []⟩ := by
 obtain ⟨lp, hc⟩ := scan_core b hlen h8
 unfold scanV
 generalize scanR b = R at hc
 obtain ⟨⟨l, good, last⟩, a, w, j⟩ := R
 simp only at hc ⊢
 cases l with
 | nil =>
  refine (hc.le (v2 := .tup [.lst [] .unk, .int .i64 good]) (fun E x hx => ?_)).drop rfl rfl (fun c o ho => by cases ho) (fun c hc => ?_)
  ·cases hx with
   | tup _ cs hcs =>
    refine .tup _ _ ?_
    generalize cs.toList = q at hcs
    cases hcs with
    | cons _ v1 _ l1 r1 t1 =>
     refine .cons _ _ _ _ ?_ t1
     cases r1 with
     | lst0 _ a cap hh => exact .lst0 _ a cap trivial
  ·have hc : c < 1000 := hc
   show none = og (memX _ _ _ _ _ _ _ _) c
   simp only [memX, rowF, og_cons]
   repeat rw [if_neg (by omega)]
   rfl
 | cons e l =>
  refine SCall.freeze (es := (e :: l).map encE) hc (op := true) ?_ (by show 1000 ≤ 1007 + l.length; omega) (by show 1000 ≤ 1007 + l.length; omega) (fun e' he => ?_) (by simp) (by omega) rfl rfl (fun c o ho => by cases ho) (fun c hc => ?_)
  ·show og (memX _ _ _ _ _ _ _ _) (1007 + l.length) = _
   simp only [memX, rowF, og_cons]
   repeat rw [if_neg (by omega)]
   rw [if_pos trivial]; rfl
  ·obtain ⟨x, _, rfl⟩ := List.mem_map.1 he; rfl
  ·have hc : c < 1000 := hc
   show none = og (memX _ _ _ _ _ _ _ _) c
   simp only [memX, rowF, og_cons]
   repeat rw [if_neg (by omega)]
   rfl
theorem scan_spec (b : List Nat) (hlen : b.length ≤ 4000) (h8 : ∀ x ∈ b, x < 256) (h : H) :
  SCall Go.Proofs.Try.prog [] 12 [.str b] none h (.ret (scanV b)) none { h with nxt := h.nxt + (7 + (scanR b).1.l.length) } := by
 have core := scan_core2 b hlen h8
 refine SCall.known rfl core.fn fun bg => ?_
 obtain ⟨E, F, w0, w, args', bg⟩ := bg
 have hfr := fun c (hc : h.nxt ≤ c) => (bg.mr.fresh c hc).2.1
 have hvin : ∀ {D : Nat → Prop}, (scanV b).In D := ⟨⟨encEs_in _, trivial⟩, trivial, trivial⟩
 refine SCall.frameL (n := 7 + (scanR b).1.l.length) (ol := []) (ol' := []) (args := [.str b]) (v := scanV b) [] rfl (by have := core; simp only [nxF] at this; rw [show 1007 + (scanR b).1.l.length = glim + ([] : List Nat).length + (7 + (scanR b).1.l.length) from by simp [glim]; omega] at this; exact this) .nil (by simp) (fun i => ?_) rfl (fun i c o hi ho => by cases hi) trivial ⟨trivial, trivial⟩ hvin trivial rfl (V.ren_id (ρ := ρL [] h.nxt) (D := fun _ => False) (fun i hi => hi.elim) hvin) rfl rfl (fun i hi => ?_) (fun c hc => rfl)
 ·show (Option.isSome none = true) ↔ 1000 ≤ i ∧ i < 1000
  simp
 ·have : ρL [] h.nxt (glim + i) = h.nxt + i := (ρL_new (bs := []) (by simp)).trans (by simp)
  rw [this]
  exact hfr _ (by omega)
end Go.VM
