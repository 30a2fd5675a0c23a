/- The law DiskAlone is true for all writes, where what it reads is of bulk at most 1048576 (the statement's own bound). No other condition. -/
import Derived.Test.YtdmpeinbbcjamaaVtAlone
import Derived.Test.YtdmpeinbbcjamaaVmClaim
import Derived.Test.YtdmpeinbbcjamaaRows
import Derived.ChangeMaps5
import Derived.JoinedCond
namespace Go.Proofs.Ytdmpeinbbcjamaa
open Go.ChangeShapes Go.WideShapes Go.ChangeAt Go.RowKit

theorem Try.own : ownKnob Try.prog.godebug = none := by kernel_rfl
theorem Try.flat : VM.flatB Try.prog [3, 9, 29, 43] = true := by kernel_rfl

theorem decodeB {H : Type} (n : Nat) (d : DataW H) (h : VM.TyD Try.prog n 29 d) : ∃ w : VM.Wr, VM.dV d = VM.encW w ∧ w.data.length + 2 ≤ Rows.uptoBulk d := by
  obtain ⟨xs, m, rfl, rfl, hx⟩ := h.st Try.underlying29
  cases hx with
  | cons h1 t => cases t with
    | cons h2 t => cases t with
      | cons h3 t =>
        cases t
        obtain ⟨k, rfl, _⟩ := h1.int Try.underlying3
        obtain ⟨a, rfl, _⟩ := h2.int Try.underlying3
        obtain ⟨x, rfl, _⟩ := h3.str Try.underlying9
        refine ⟨⟨k, a, x.map UInt8.toNat⟩, rfl, ?_⟩
        simp only [Rows.uptoBulk, Rows.uptoBulkAll, List.length_map]; omega

theorem decodeBs {H : Type} (m : Nat) : ∀ {es : List (DataW H)}, (∀ x ∈ es, VM.TyD Try.prog m 29 x) → ∃ l : List VM.Wr, es.map VM.dV = l.map VM.encW ∧ 2 * l.length + VM.dl l ≤ Rows.uptoBulkAll es
  | [], _ => ⟨[], rfl, by simp [VM.dl, Rows.uptoBulkAll]⟩
  | x :: es, h => by
    obtain ⟨w, h1, h2⟩ := decodeB m x (h x (by simp))
    obtain ⟨l, h3, h4⟩ := decodeBs m (es := es) fun y hy => h y (by simp [hy])
    refine ⟨w :: l, by simp [h1, h3], ?_⟩
    simp only [List.length_cons, VM.dl, Rows.uptoBulkAll]; omega

theorem decodeSl {H : Type} (n : Nat) (d : DataW H) (h : VM.TyD Try.prog n 43 d) : ∃ l : List VM.Wr, VM.dV d = [.lst (l.map VM.encW) .unk] ∧ 2 * l.length + VM.dl l ≤ Rows.uptoBulk d := by
  rcases h.sl Try.underlying43 with rfl | ⟨es, sp, m, rfl, rfl, _, h2⟩
  · exact ⟨[], rfl, by simp [VM.dl]⟩
  · obtain ⟨l, h3, h4⟩ := decodeBs m h2
    refine ⟨l, by rw [VM.dV, VM.dVs_map, h3], ?_⟩
    simp only [Rows.uptoBulk]; omega

theorem alone_contract (H : Type) (enc : TypeId × Value → H) (W : World) (base : Nat) (args : Array Value) (ds gs : List (DataW H)) (before : List MemPlace)
    (hval0 : ∀ (j : Nat) t v, Try.f8.params[j]? = some t → args[j]? = some v → Value.okWide Try.prog W .any base t v)
    (hW : DataW.Whole enc Try.prog Try.f8.params.toList Rows.diskAloneSpec.vars false W args.toList ds gs before) (hk : Rows.uptoSmall H (ds ++ gs) = true) :
    Calls Try.prog 8 args W fun e W' => ∃ v, e = .returned v ∧ Rows.diskAloneSpec.post enc Try.prog Try.f8 false true false false W args v W' := by
  have hval : ∀ (j : Nat) t v, Try.f8.params[j]? = some t → args[j]? = some v → Value.okWide Try.prog W .any base t v := hval0
  have hW' := hW
  obtain ⟨p, q, hA0, hV, rfl, hfz, hnd⟩ := hW
  have hA : DataW.TrodAll enc Try.prog W 0 (fun _ => true) true Try.f8.params.toList args.toList ds p := hA0
  rw [Try.params8] at hA hval
  obtain ⟨v0, v1, d0, d1, p0, p1, rfl, rfl, rfl, h0, h1⟩ := trodAll_two hA
  obtain ⟨rfl, rfl⟩ := trodVars_none hV
  obtain ⟨fu0, h0⟩ := h0
  obtain ⟨r0, _, t0⟩ := VM.read_ok Try.flat fu0 _ _ _ (by decide) h0
  obtain ⟨fu1, h1⟩ := h1
  obtain ⟨r1, _, t1⟩ := VM.read_ok Try.flat fu1 _ _ _ (by decide) h1
  have k0 := hval 0 43 v0 rfl rfl
  have k1 := hval 1 29 v1 rfl rfl
  obtain ⟨l, hl, hb0⟩ := decodeSl _ _ t0
  obtain ⟨w, hw, hb1⟩ := decodeB _ _ t1
  have a0 := VM.arg_slice Try.underlying43 k0 r0 hl
  have a1 := VM.arg_struct Try.underlying29 k1 r1 hw
  have hb0 : 2 * l.length + VM.dl l ≤ Rows.uptoBulk d0 := hb0
  have hb1 : w.data.length + 2 ≤ Rows.uptoBulk d1 := hb1
  have hk := of_decide_eq_true hk
  simp only [List.append_nil, Rows.uptoBulkAll] at hk
  refine (VM.calls_of (args' := #[v0, v1]) (VM.alone_spec l w (by omega) (by omega) (by omega) VM.h0) (.cons _ _ _ _ a0 (.cons _ _ _ _ a1 .nil))).mono fun e W' ⟨E', v', he, hv, bel⟩ => ?_
  cases hv
  subst he
  exact ⟨_, rfl, ⟨_, _, _, [], _, _, hW', trodAll_mk1 (shut_bool (by kernel_rfl) true), VM.stays_of Try.flat bel (by decide) hW' hA0, hV, bel.frame _, fun h => by cases h⟩⟩

set_option maxRecDepth 100000 in
theorem alone_lifted (os : Os) (started : os.Started) (H : Type) (enc : TypeId × Value → H) (F : Stop.Interp) :
    ReturnsInHanded {} Try.checked os 8 .any ((Rows.OpenSpec.upto Rows.diskAloneSpec).pre6 enc Try.prog Try.f8 Rows.diskAloneUptoRow.domain false) (((Rows.OpenSpec.upto Rows.diskAloneSpec).at F).post enc Try.prog Try.f8 false true false false) := by
  refine returnsInHanded_of_cond (C := Try.checked) (s := Rows.OpenSpec.upto Rows.diskAloneSpec) (k := Rows.uptoSmall) rfl Try.own started (by kernel_rfl) Try.func8
    (OpenSpec.witness (enc := enc) (C := Try.checked) (s := Rows.OpenSpec.upto Rows.diskAloneSpec) (k := Rows.uptoSmall) rfl false ⟨#[], #[.slice none 0 0, .agg #[.int .i64 0, .int .i64 0, .string ByteArray.empty]], []⟩ 8 (by kernel_rfl) (by kernel_rfl) (by kernel_rfl)
      (x := ([.nil, .agg [.lit (.int .i64 0), .lit (.int .i64 0), .lit (.string [])]], [], [])) (by kernel_rfl) rfl (by kernel_rfl)) ?_
  intro W base args ds gs before hval hW _ hk _
  exact alone_contract H enc W base args ds gs before hval hW hk

theorem diskAloneUpto_holds : Rows.DiskAloneUptoSaid :=
  OpenClaim.holds_of_cond 8 Try.f8 rfl rfl rfl rfl rfl rfl rfl ⟨rfl, rfl, rfl, rfl, rfl⟩ rfl rfl rfl rfl rfl (by kernel_rfl) Try.func8 (by kernel_rfl)
    (of_decide_eq_true (by kernel_rfl)) (by unfold Func.isWrapper; first | (rw [if_pos (by decide +kernel)]; kernel_rfl) | (rw [if_neg (by decide +kernel)]; exact ⟨rfl, rfl⟩))
    (fun os started H enc _ F => alone_lifted os started H enc F)
#print axioms diskAloneUpto_holds
end Go.Proofs.Ytdmpeinbbcjamaa
