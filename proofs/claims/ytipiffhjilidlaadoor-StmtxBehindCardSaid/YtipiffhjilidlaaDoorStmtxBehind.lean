/- The law StmtxBehind is true for every two lists of tokens, in every world whose listed variables are as the program lays them. No other condition. -/
import Derived.Test.YtipiffhjilidlaaDoorVh0
import Derived.Test.YtipiffhjilidlaaDoorVmH
import Derived.Test.YtipiffhjilidlaaDoorAwStmtxBehind
import Derived.Test.YtipiffhjilidlaaDoorVbStmtxBehindJe
import Derived.Test.YtipiffhjilidlaaDoorCards
import Derived.Test.YtipiffhjilidlaaDoorTie
import Derived.Test.YtipiffhjilidlaaDoorRows
import Derived.ChangeMaps5
import Derived.ProofKit
import Derived.OpenShut
import Derived.SizedLaws
import Derived.LaidMore
import Derived.Lay
import Derived.SevenTiedAt
import Derived.Stop.Joined
namespace Go.Proofs.YtipiffhjilidlaaDoor
open Go.ChangeShapes Go.WideShapes Go.ChangeAt Go.RowKit
theorem Tryd.flat : VM.flatB Tryd.prog [3, 9, 23, 37] = true := by kernel_rfl
theorem decodeTk {H : Type} (n : Nat) (d : DataW H) (h : VM.TyD Tryd.prog n 37 d) (hw : ∀ w ∈ d.weights Tryd.prog 37, w ≤ reachBytes) : ∃ x : VM.Tz, VM.dV d = VM.encTz x ∧ x.t.length < VM.big := by
 obtain ⟨xs, m, rfl, rfl, hx⟩ := h.st Tryd.underlying37
 cases hx with
 | cons h1 t => cases t with
  | cons h2 t => cases t with
   | cons h3 t => cases t with
    | cons h4 t =>
     cases t
     obtain ⟨k, rfl, _⟩ := h1.int Tryd.underlying3
     obtain ⟨a, rfl, _⟩ := h2.int Tryd.underlying3
     obtain ⟨e, rfl, _⟩ := h3.int Tryd.underlying3
     obtain ⟨s, rfl, _⟩ := h4.str Tryd.underlying9
     simp only [DataW.weights, Tryd.underlying37, List.map_cons, List.map_nil, DataW.weightsEach, List.nil_append, List.append_nil, List.mem_singleton] at hw
     have hs : (s.map UInt8.toNat).length ≤ reachBytes := by rw [List.length_map]; exact hw _ rfl
     exact ⟨⟨k, a, e, s.map UInt8.toNat⟩, rfl, Nat.lt_of_le_of_lt hs (by decide)⟩
theorem decodeTks {H : Type} (n : Nat) : ∀ es : List (DataW H), (∀ x ∈ es, VM.TyD Tryd.prog n 37 x) → (∀ w ∈ DataW.weightsAll Tryd.prog 37 es, w ≤ reachBytes) → ∃ l : List VM.Tz, VM.dVs es = l.map VM.encTz ∧ ∀ t ∈ l, t.t.length < VM.big
 | [], _, _ => ⟨[], rfl, fun t h => by cases h⟩
 | y :: r, h1, h2 => by
  simp only [DataW.weightsAll, List.mem_append] at h2
  obtain ⟨x, e1, o1⟩ := decodeTk n y (h1 y (by simp)) (fun w h => h2 w (.inl h))
  obtain ⟨l, e2, o2⟩ := decodeTks n r (fun x h => h1 x (by simp [h])) (fun w h => h2 w (.inr h))
  refine ⟨x :: l, by simp only [VM.dVs, List.map_cons, e1, e2], fun t ht => ?_⟩
  cases ht with
  | head => exact o1
  | tail _ ht => exact o2 t ht
theorem decodeTs {H : Type} (n : Nat) (d : DataW H) (h : VM.TyD Tryd.prog n 23 d) (hw : ∀ w ∈ d.weights Tryd.prog 23, w ≤ reachBytes) : ∃ l : List VM.Tz, VM.dV d = [VM.lsV l] ∧ ∀ t ∈ l, t.t.length < VM.big := by
 rcases h.sl Tryd.underlying23 with rfl | ⟨es, sp, m, rfl, rfl, _, h2⟩
 ·exact ⟨[], rfl, fun t h => by cases h⟩
 ·obtain ⟨l, h3, h4⟩ := decodeTks m es h2 (fun w h => hw w (by
   simp only [DataW.weights, Tryd.underlying23, List.mem_cons, List.mem_append]; exact .inr (.inl h)))
  exact ⟨l, by rw [VM.dV, h3]; rfl, h4⟩
theorem stmtxBehind_laid {W : World} (h : laidMetH Tryd.prog Rows.stmtxBehindRow.laid W) : ∃ c t, W.heap[0]? = some (.cells c t (0, 0)) ∧ c = (VM.spaces.map fun z => Value.int .u8 z).toArray := by
 exact VM.space_laid (t := 92) (e := 5) h (by kernel_rfl) (by kernel_rfl) Tryd.spaceG (by kernel_rfl) (by kernel_rfl) (by kernel_rfl) (by kernel_rfl) (by kernel_rfl) (of_decide_eq_true (by kernel_rfl))
set_option maxRecDepth 100000 in
theorem stmtxBehind_lifted (os : Os) (started : os.Started) (H : Type) (enc : TypeId × Value → H) :
  ReturnsInHanded {} Tryd.checked os 8 .any (fun w args => (Rows.stmtxBehindSpec.pre enc Tryd.prog Tryd.f8 Rows.stmtxBehindRow.domain false w args ∧ laidMetH Tryd.prog Rows.stmtxBehindRow.laid w) ∧ sizedMet enc Tryd.prog Tryd.f8 (OpenSpec.ofChange Rows.stmtxBehindSpec) false w args)
   (Rows.stmtxBehindSpec.post enc Tryd.prog Tryd.f8 false true false false) := by
 refine returnsInHanded_of_change_and (C := Tryd.checked) (X := fun w _ => laidMetH Tryd.prog Rows.stmtxBehindRow.laid w) (fun _ _ _ hh h => h.of_heap hh) Tryd.own started (by kernel_rfl) Tryd.func8
  (ChangeSpec.witness_shaped (enc := enc) (C := Tryd.checked) (os := os) (X := fun w _ => laidMetH Tryd.prog Rows.stmtxBehindRow.laid w) false (World.laidAll Tryd.prog os Rows.stmtxBehindRow.laid) #[.slice none 0 0, .slice none 0 0] 8 (World.laidAll_os _ _ _)
   (World.shaped_of_ZipB (by kernel_rfl) (by kernel_rfl)) (by kernel_rfl) (by kernel_rfl) (by kernel_rfl)
   (by rw [MakeChecks.laidMetH_plain _ _ _ (by kernel_rfl)]; exact laidMet_laidAll _ (by kernel_rfl) (by kernel_rfl))) ?_
 intro W base args ds gs before hval0 hW hcnd hsz hL _
 have hval : ∀ (j : Nat) t v, Tryd.f8.params[j]? = some t → args[j]? = some v → Value.okWide Tryd.prog W .any base t v := hval0
 have hW' := hW
 obtain ⟨p, q, hA0, hV, rfl, hfz, hnd⟩ := hW
 have hA : DataW.TrodAll enc Tryd.prog W 0 (fun _ => true) true Tryd.f8.params.toList args.toList ds p := hA0
 rw [Tryd.params8] at hA hval
 obtain ⟨v0, v1, d0, d1, p0, p1, rfl, rfl, rfl, h0, h1⟩ := trodAll_two hA
 obtain ⟨rfl, rfl⟩ := trodVars_none hV
 obtain ⟨fu0, h0⟩ := h0
 obtain ⟨r0, _, t0⟩ := VM.read_ok Tryd.flat fu0 _ _ _ (by decide) h0
 have k0 := hval 0 23 v0 rfl rfl
 have sz0 : ∀ w ∈ d0.weights Tryd.prog 23, w ≤ reachBytes := fun w hw => by
  have := List.all_eq_true.1 hsz w (DataW.weights_mem_each (j := 0) (t := 23) (d := d0) (by rw [Tryd.params8]; rfl) rfl w hw)
  simpa using this
 obtain ⟨fu1, h1⟩ := h1
 obtain ⟨r1, _, t1⟩ := VM.read_ok Tryd.flat fu1 _ _ _ (by decide) h1
 have k1 := hval 1 23 v1 rfl rfl
 have sz1 : ∀ w ∈ d1.weights Tryd.prog 23, w ≤ reachBytes := fun w hw => by
  have := List.all_eq_true.1 hsz w (DataW.weights_mem_each (j := 1) (t := 23) (d := d1) (by rw [Tryd.params8]; rfl) rfl w hw)
  simpa using this
 obtain ⟨l0, hl0, ho0⟩ := decodeTs _ _ t0 sz0
 obtain ⟨l1, hl1, ho1⟩ := decodeTs _ _ t1 sz1
 have a0 := VM.arg_slice Tryd.underlying23 k0 r0 hl0
 have a1 := VM.arg_slice Tryd.underlying23 k1 r1 hl1
 obtain ⟨c, t, hb, hc⟩ := stmtxBehind_laid hL
 refine (VM.calls_tab (args' := #[v0, v1]) (VM.behind_spec l0 l1 ho0 ho1) (by decide) hb hc (.cons _ _ _ _ a0 (.cons _ _ _ _ a1 .nil))).mono fun e W' ⟨E', v', he, hv, bel⟩ => ?_
 cases hv
 subst he
 exact ⟨_, rfl, ⟨_, _, _, [], _, _, hW', trodAll_mk1 (shut_bool (by kernel_rfl) true), VM.stays_of Tryd.flat bel (by decide) hW' hA0, hV, bel.frame _, fun h => by cases h⟩⟩
theorem stmtxBehind_row : Rows.StmtxBehindSaid :=
 OpenClaim.holds_of_wide 8 Tryd.f8 rfl rfl rfl rfl rfl rfl rfl ⟨rfl, rfl, rfl, rfl, rfl⟩ rfl rfl rfl rfl rfl (by kernel_rfl) Tryd.func8 stmtxBehind_closed
  (of_decide_eq_true (by kernel_rfl)) (by unfold Func.isWrapper; first | (rw [if_pos (by decide +kernel)]; kernel_rfl) | (rw [if_neg (by decide +kernel)]; exact ⟨rfl, rfl⟩))
  (fun os started H enc _ => stmtxBehind_lifted os started H enc)
theorem stmtxBehind_holds : Rows.StmtxBehindCardSaid :=
 Claim7.holds_tied_plain_at .later [] [.data, .data, .data, .sentinel, .sentinel, .listed, .data] true (true, "4ce60ba05452a857bddc1a541d22ed97cf49483ef16069668c4adeffdd4368ca") true
  stmtxBehind_row (fun _ h => by cases h) (by kernel_rfl) (fun _ h => by cases h) stmtxBehind_row_tie rfl ⟨rfl, rfl⟩ (by kernel_rfl) rfl
  (fun f fn hf hfn => by
   obtain rfl : f = 8 := Option.some.inj ((show Tryd.prog.funcNamed "quoin/quoinlaw05.StmtxBehind" = some 8 by kernel_rfl).symm.trans hf) |>.symm
   obtain rfl : fn = Tryd.f8 := (Option.some.inj (Tryd.func8.symm.trans hfn)).symm
   exact ⟨by kernel_rfl, fun j t ht => by
    rw [Tryd.params8] at ht
    have : t = 23 ∨ t = 23 := by
     rcases j with _ | _ | j
     ·left; simpa using ht.symm
     ·right; simpa using ht.symm
     ·simp at ht
    rcases this with rfl | rfl
    ·show Tryd.prog.wantsStandIn 23 = false; kernel_rfl
    ·show Tryd.prog.wantsStandIn 23 = false; kernel_rfl⟩)
  (by kernel_rfl)
#print axioms stmtxBehind_holds
end Go.Proofs.YtipiffhjilidlaaDoor
