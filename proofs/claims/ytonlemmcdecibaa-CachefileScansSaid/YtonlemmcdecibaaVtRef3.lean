/- laid for this seat: VtRef3 -/
import Derived.Test.YtonlemmcdecibaaVtRef2
/- The document's Scan over any memory; it scans the same. -/
set_option maxRecDepth 100000
set_option linter.unusedVariables false
set_option linter.unusedSimpArgs false
namespace Go.VM
open Go.RowKit
def scanDR (b : List Nat) : Sc := scanD b (b.length + 1) 0 sc0
theorem lvD_in (l : List Ent) : (lvD l).In (· < nxD l) := by
 cases l with
 | nil => trivial
 | cons e l => show 1001 + l.length < 1001 + (l.length + 1); omega
theorem memD_B {b : List Nat} {a : Nat} {w : Bool} (l : List Ent) : olB (nxD l) (preD b a w ++ rowD l) = true := by
 cases l with
 | nil => simp [preD, rowD, olB, nxD]
 | cons e l => simp [preD, rowD, olB, nxD]; omega
theorem memD_ref {b : List Nat} {a : Nat} {w : Bool} (l : List Ent) : ∀ c o, og (preD b a w ++ rowD l) c = some o → ORefLt (nxD l) o := by
 intro c o ho
 have hin : olIn (· < nxD l) (preD b a w ++ rowD l) := by
  cases l with
  | nil => exact ⟨⟨trivial, trivial, trivial, trivial⟩, trivial⟩
  | cons e l => exact ⟨⟨trivial, trivial, trivial, trivial⟩, flat_in _, trivial⟩
 exact (olIn_get hin c o ho).refLt
theorem scanD_core (b : List Nat) (hlen : b.length ≤ 4000) (h8 : ∀ x ∈ b, x < 256) :
  ∃ c : Nat × Bool, SCall Go.Proofs.Try.prog [] 13 [.str b] none ⟨1000, og [], []⟩ (.ret (.tup [lvD (scanDR b).l, .int .i64 (scanDR b).good])) none ⟨nxD (scanDR b).l, og (preD b c.1 c.2 ++ rowD (scanDR b).l), []⟩ := by
 refine SCall.listedE (ι := Nat × Bool) (P := Go.Proofs.Try.prog) (gl := []) (f := 13) (fn := Go.Proofs.Try.f13) (rc := rc13) (args := [.str b]) (nx := 1000) (ol := []) (nx' := fun _ => nxD (scanDR b).l) (ol' := fun c => preD b c.1 c.2 ++ rowD (scanDR b).l) (v := fun _ => .tup [lvD (scanDR b).l, .int .i64 (scanDR b).good])
  (by kernel_rfl) res13 (by kernel_rfl) (by kernel_rfl) (fun _ => by simp only [nxD]; omega) (fun _ => memD_B _) (fun _ c hc => .inr fun o ho => memD_ref _ c o ho) (fun _ => ⟨lvD_in _, trivial, trivial⟩) ?_
 unfold rc13
 refine WR.seq (WR.reg (WQ.runS [] 1000 _ _ _ _ rfl (WQ.nilS ?_)))
 refine WR.seq (WR.reg (WQ.runS [13] 1000 _ _ _ _ rfl (WQ.nilS ?_)))
 refine WR.seq (WR.reg (WQ.runS [] 1000 _ _ _ _ rfl (WQ.nilS ?_)))
 refine WR.seq (WR.reg (WQ.runS [] 1000 _ _ _ _ rfl (WQ.nilS ?_)))
 refine WR.seq (WR.reg (WQ.runS [] 1000 _ _ _ _ rfl (WQ.nilS ?_)))
 refine WR.seq (WR.block (WR.loop (WLr.weak (s := SL.toS ⟨dTm b sc0 0, [], none, nxD sc0.l, preD b 0 false ++ rowD sc0.l, []⟩) ?_ (scanD_loop b hlen h8 (b.length + 1) 0 sc0 (by omega) (by omega) (Nat.le_refl _) (Nat.le_refl _) rfl (fun tm lc a' w' h5 h7 => ?_) (fun tm lc a' w' h2 h3 => ?_)))))
 ·refine SW.tellR ?_ ?_
  ·repeat (first | exact .nil | refine .cons rfl (.v (VLe.refl _)) ?_ | refine .cons rfl (.l _ _ rfl) ?_ | refine .cons rfl (.v (VLe.unk _ _)) ?_)
  ·repeat (first | exact .nil | refine .cons rfl (.inl rfl) ?_)
 ·refine WR.weak (s := SL.toS ⟨[(5, .v (lvD (scanDR b).l)), (7, .v (.int .i64 (scanDR b).good))], [], none, nxD (scanDR b).l, preD b a' w' ++ rowD (scanDR b).l, []⟩) (SW.tellR (.cons h5 (.v (VLe.refl _)) (.cons h7 (.v (VLe.refl _)) .nil)) .nil) ?_
  unfold rc13_J1
  repeat (first | refine WR.seq ?_ | refine WR.block ?_ | refine WR.scope ?_ | refine WR.skip ?_ | refine WR.exit ?_ | refine WR.condT rfl ?_ | refine WR.condF rfl ?_ | refine WR.reg (WQ.runS [] 1000 _ _ _ _ rfl ?_) | refine WQ.nilS ?_ | refine WR.dreg hmix (DW.runS [] 1000 _ _ _ _ _ _ rfl ?_))
  exact WR.ret ⟨(a', w'), rfl, _, .nil, ⟨_, rfl, VLe.refl _⟩, fun _ _ => rfl⟩
 ·refine ⟨(a', w'), rfl, _, .nil, ⟨[lvD (scanDR b).l, .int .i64 (scanDR b).good], ?_, VLe.refl _⟩, fun _ _ => rfl⟩
  show resV Go.Proofs.Try.prog _ tm [.tmp 2, .tmp 3] = _
  have h2' : tg tm 2 = some (.v (lvD (scanDR b).l)) := h2
  have h3' : tg tm 3 = some (.v (.int .i64 (scanDR b).good)) := h3
  simp only [resV, h2', h3']
def scanDV (b : List Nat) : V := .tup [.lst ((scanDR b).l.map encE) .unk, .int .i64 (scanDR b).good]
theorem scanD_core2 (b : List Nat) (hlen : b.length ≤ 4000) (h8 : ∀ x ∈ b, x < 256) :
  SCall Go.Proofs.Try.prog [] 13 [.str b] none ⟨1000, og [], []⟩ (.ret (scanDV b)) none ⟨nxD (scanDR b).l, og [], []⟩ := by
 obtain ⟨c0, hc⟩ := scanD_core b hlen h8
 unfold scanDV
 generalize scanDR b = R at hc
 obtain ⟨l, good, last⟩ := R
 simp only at hc ⊢
 cases l with
 | nil =>
  refine (hc.le (v2 := .tup [.lst [] .unk, .int .i64 good]) (fun E x hx => ?_)).drop rfl rfl (fun c o ho => by cases ho) (fun c hc => ?_)
  ·cases hx with
   | tup _ cs hcs =>
    refine .tup _ _ ?_
    generalize cs.toList = q at hcs
    cases hcs with
    | cons _ v1 _ l1 r1 t1 =>
     refine .cons _ _ _ _ ?_ t1
     cases r1 with
     | lst0 _ a cap hh => exact .lst0 _ a cap trivial
  ·have hc : c < 1000 := hc
   show none = og (preD _ _ _ ++ rowD _) c
   simp only [preD, rowD, List.cons_append, List.nil_append, og_cons]
   repeat rw [if_neg (by omega)]
   rfl
 | cons e l =>
  refine SCall.freeze (es := (e :: l).map encE) hc (op := true) ?_ (by show 1000 ≤ 1001 + l.length; omega) (by show 1000 ≤ 1001 + l.length; omega) (fun e' he => ?_) (by simp) (by omega) rfl rfl (fun c o ho => by cases ho) (fun c hc => ?_)
  ·show og (preD _ _ _ ++ rowD _) (1001 + l.length) = _
   simp only [preD, rowD, List.cons_append, List.nil_append, og_cons]
   repeat rw [if_neg (by omega)]
   rw [if_pos trivial]; rfl
  ·obtain ⟨x, _, rfl⟩ := List.mem_map.1 he; rfl
  ·have hc : c < 1000 := hc
   show none = og (preD _ _ _ ++ rowD _) c
   simp only [preD, rowD, List.cons_append, List.nil_append, og_cons]
   repeat rw [if_neg (by omega)]
   rfl
theorem scanD_spec (b : List Nat) (hlen : b.length ≤ 4000) (h8 : ∀ x ∈ b, x < 256) (h : H) :
  SCall Go.Proofs.Try.prog [] 13 [.str b] none h (.ret (scanDV b)) none { h with nxt := h.nxt + (1 + (scanDR b).l.length) } := by
 have core := scanD_core2 b hlen h8
 refine SCall.known rfl core.fn fun bg => ?_
 obtain ⟨E, F, w0, w, args', bg⟩ := bg
 have hfr := fun c (hc : h.nxt ≤ c) => (bg.mr.fresh c hc).2.1
 have hvin : ∀ {D : Nat → Prop}, (scanDV b).In D := ⟨⟨encEs_in _, trivial⟩, trivial, trivial⟩
 refine SCall.frameL (n := 1 + (scanDR b).l.length) (ol := []) (ol' := []) (args := [.str b]) (v := scanDV b) [] rfl (by have := core; simp only [nxD] at this; rw [show 1001 + (scanDR b).l.length = glim + ([] : List Nat).length + (1 + (scanDR b).l.length) from by simp [glim]; omega] at this; exact this) .nil (by simp) (fun i => ?_) rfl (fun i c o hi ho => by cases hi) trivial ⟨trivial, trivial⟩ hvin trivial rfl (V.ren_id (ρ := ρL [] h.nxt) (D := fun _ => False) (fun i hi => hi.elim) hvin) rfl rfl (fun i hi => ?_) (fun c hc => rfl)
 ·show (Option.isSome none = true) ↔ 1000 ≤ i ∧ i < 1000
  simp
 ·have : ρL [] h.nxt (glim + i) = h.nxt + i := (ρL_new (bs := []) (by simp)).trans (by simp)
  rw [this]
  exact hfr _ (by omega)
theorem take4 {b : List Nat} {a : Nat} (h : a + 4 ≤ b.length) : itR b 4 0 a false = (be ((b.drop a).take 4), a + 4, false) := by
 obtain ⟨c0, h0⟩ : ∃ c, b[a]? = some c := ⟨_, List.getElem?_eq_getElem (by omega)⟩
 obtain ⟨c1, h1⟩ : ∃ c, b[a + 1]? = some c := ⟨_, List.getElem?_eq_getElem (by omega)⟩
 obtain ⟨c2, h2⟩ : ∃ c, b[a + 2]? = some c := ⟨_, List.getElem?_eq_getElem (by omega)⟩
 obtain ⟨c3, h3⟩ : ∃ c, b[a + 3]? = some c := ⟨_, List.getElem?_eq_getElem (by omega)⟩
 have e : (b.drop a).take 4 = [c0, c1, c2, c3] := by
  apply List.ext_getElem?
  intro i
  rw [List.getElem?_take, List.getElem?_drop]
  match i with
  | 0 => simpa using h0
  | 1 => simpa using h1
  | 2 => simpa using h2
  | 3 => simpa using h3
  | i + 4 => simp; omega
 rw [e]
 simp [itR, oneF, h0, h1, h2, h3, be]
 omega
theorem itR_lost {b : List Nat} : ∀ (m n a : Nat) (w : Bool), w = true → (itR b m n a w).2.2 = true
 | 0, n, a, w, h => h
 | m + 1, n, a, w, h => itR_lost m _ _ _ (by unfold oneF; split <;> simp [h])
theorem itR_short {b : List Nat} : ∀ (m n a : Nat) (w : Bool), a ≤ b.length → b.length < a + m → (itR b m n a w).2.2 = true
 | 0, n, a, w, h, k => by omega
 | m + 1, n, a, w, h, k => by
  show (itR b m _ (oneF b a w).2.1 (oneF b a w).2.2).2.2 = true
  cases hq : b[a]? with
  | none => exact itR_lost m _ _ _ (by simp [oneF, hq])
  | some c =>
   have := (List.getElem?_eq_some_iff.1 hq).1
   have e : oneF b a w = (c, a + 1, w) := by simp [oneF, hq]
   rw [e]
   exact itR_short m _ _ _ (by simp only; omega) (by simp only; omega)
theorem num_same {b : List Nat} {a : Nat} (ha : a ≤ b.length) : (numR b a false).2.2 = !(numF b a true).2.2 ∧ ((numF b a true).2.2 = true → (numR b a false).1 = (numF b a true).1 ∧ (numR b a false).2.1 = (numF b a true).2.1) := by
 by_cases h : a + 4 ≤ b.length
 ·have h1 := take4 h
  have h2 : takeF b a true 4 = ((b.drop a).take 4, a + 4, true) := by simp [takeF]; omega
  unfold numR numF
  rw [h1, h2]
  refine ⟨?_, fun _ => ⟨rfl, rfl⟩⟩
  simp only [Bool.false_or, Bool.true_and]
  rw [← decide_not]
  exact decide_eq_decide.2 (by omega)
 ·have h1 := itR_short (b := b) 4 0 a false ha (by omega)
  have h2 : takeF b a true 4 = ([], a, false) := by simp [takeF]; omega
  unfold numR numF
  rw [h1, h2]
  exact ⟨by simp, fun h => by simp at h⟩
theorem textR_lost {b : List Nat} {a : Nat} : (textR b a true).2.2 = true := by
 have : (numR b a true).2.2 = true := by unfold numR; simp [itR_lost 4 0 a true rfl]
 unfold textR
 rw [if_pos (Or.inl this)]
theorem text_same {b : List Nat} {a : Nat} (ha : a ≤ b.length) : (textR b a false).2.2 = !(textF b a true).2.2 ∧ ((textF b a true).2.2 = true → (textR b a false).1 = (textF b a true).1 ∧ (textR b a false).2.1 = (textF b a true).2.1) := by
 obtain ⟨h1, h2⟩ := num_same ha
 unfold textR textF
 cases hw : (numF b a true).2.2 with
 | false =>
  rw [hw] at h1; simp only [Bool.not_false, Bool.not_true] at h1
  rw [if_pos (Or.inl h1)]
  have : takeF b (numF b a true).2.1 false (numF b a true).1 = ([], (numF b a true).2.1, false) := by simp [takeF]
  rw [this]
  exact ⟨rfl, fun h => by simp at h⟩
 | true =>
  rw [hw] at h1; simp only [Bool.not_false, Bool.not_true] at h1
  obtain ⟨h3, h4⟩ := h2 hw
  rw [h3, h4]
  by_cases hn : (numF b a true).1 ≤ b.length - (numF b a true).2.1
  ·have e : takeF b (numF b a true).2.1 true (numF b a true).1 = ((b.drop (numF b a true).2.1).take (numF b a true).1, (numF b a true).2.1 + (numF b a true).1, true) := by simp [takeF, hn]
   rw [e, if_neg (by rw [h1]; simp; omega)]
   exact ⟨rfl, fun _ => ⟨rfl, rfl⟩⟩
  ·have e : takeF b (numF b a true).2.1 true (numF b a true).1 = ([], (numF b a true).2.1, false) := by simp only [takeF]; rw [if_neg (by simp [hn])]
   rw [e, if_pos (Or.inr (by omega))]
   exact ⟨rfl, fun h => by simp at h⟩
theorem rec_same {b : List Nat} {a kind : Nat} (h8 : ∀ x ∈ b, x < 256) (ha : a + 1 ≤ b.length) : recD b a kind = match recF b a kind with | some (x, true) => some x | _ => none := by
 unfold recD recF
 by_cases h1 : kind = 1
 ·rw [if_pos h1, if_pos h1]
  simp only
  obtain ⟨q1, q2⟩ := text_same ha
  have hle := (textF_ok b (a + 1) true ha h8).1
  cases hw : (textF b (a + 1) true).2.2 with
  | false =>
   rw [hw] at q1; simp only [Bool.not_false, Bool.not_true] at q1
   rw [q1]
   have e : textF b (textF b (a + 1) true).2.1 false = ([], (takeF b (textF b (a + 1) true).2.1 false 4).2.1, false) := by simp [textF, numF, takeF]
   rw [e, if_pos textR_lost]
  | true =>
   rw [hw] at q1; simp only [Bool.not_false, Bool.not_true] at q1
   obtain ⟨q3, q4⟩ := q2 hw
   rw [show (textR b (a + 1) false).2.2 = false from q1, q4, q3]
   obtain ⟨p1, p2⟩ := text_same hle
   cases hw2 : (textF b (textF b (a + 1) true).2.1 true).2.2 with
   | false =>
    rw [hw2] at p1; simp only [Bool.not_false, Bool.not_true] at p1
    rw [if_pos p1]
   | true =>
    rw [hw2] at p1; simp only [Bool.not_false, Bool.not_true] at p1
    obtain ⟨p3, p4⟩ := p2 hw2
    rw [if_neg (by rw [p1]; simp), p3, p4]
 ·rw [if_neg h1, if_neg h1]
  obtain ⟨q1, q2⟩ := num_same ha
  by_cases h2 : kind = 2 ∨ kind = 3
  ·rw [if_pos h2]
   simp only
   cases hw : (numF b (a + 1) true).2.2 with
   | false =>
    rw [hw] at q1; simp only [Bool.not_false, Bool.not_true] at q1
    rw [if_pos (Or.inl q1)]
   | true =>
    rw [hw] at q1; simp only [Bool.not_false, Bool.not_true] at q1
    obtain ⟨q3, q4⟩ := q2 hw
    rw [if_neg (by rw [q1]; simp [h2]), q3, q4]
  ·rw [if_neg h2, if_pos (Or.inr h2)]
theorem scan_same (b : List Nat) (h8 : ∀ x ∈ b, x < 256) : ∀ (m a : Nat) (s : Sc), scanD b m a s = (scanL b m a s).1 := by
 intro m
 induction m with
 | zero => intro a s; rfl
 | succ m ih =>
  intro a s
  unfold scanD scanL
  cases hk : b[a]? with
  | none => rfl
  | some kind =>
   have hlt := (List.getElem?_eq_some_iff.1 hk).1
   simp only
   rw [rec_same h8 (by omega)]
   cases hr : recF b a kind with
   | none => rfl
   | some xw =>
    obtain ⟨x, w⟩ := xw
    cases w with
    | false => rfl
    | true =>
     simp only
     cases hadd : addF s x with
     | none => rfl
     | some s' => simp only; exact ih x.e s'
theorem scanDV_eq (b : List Nat) (h8 : ∀ x ∈ b, x < 256) : scanDV b = scanV b := by
 have : scanDR b = (scanR b).1 := scan_same b h8 _ 0 sc0
 unfold scanDV scanV
 rw [this]
end Go.VM
