/- laid for this seat: VtShowT -/
import Derived.Test.YtgmacbfblfdcgaaGreatDoorRcShowT
import Derived.Test.YtgmacbfblfdcgaaGreatDoorVmH
/- Types shown: what the program's and the document's functions tell. -/
set_option maxRecDepth 100000
set_option linter.unusedVariables false
set_option linter.unusedSimpArgs false
namespace Go.VM
open Go.RowKit

theorem hmix : Go.Proofs.Tryz.prog.follows .mixedOrders = true := by kernel_rfl

inductive TX where
  | mk (k a : Int) (p n : List Nat) (l : List TX)

mutual
def encT : TX → List V
  | .mk k a p n l => [.int .i64 k, .int .i64 a, .str p, .str n, .lst (encTs l) .unk]
def encTs : List TX → List (List V)
  | [] => []
  | x :: r => encT x :: encTs r
end

theorem encTs_len : ∀ l : List TX, (encTs l).length = l.length
  | [] => rfl
  | x :: r => by simp only [encTs, List.length_cons, encTs_len r]

mutual
theorem encT_in : ∀ x : TX, Ins (· < glim) (encT x)
  | .mk k a p n l => ⟨trivial, trivial, trivial, trivial, ⟨encTs_in l, trivial⟩, trivial⟩
theorem encTs_in : ∀ l : List TX, Inss (· < glim) (encTs l)
  | [] => trivial
  | x :: r => ⟨encT_in x, encTs_in r⟩
end

/-- how long a string of an argument may be. -/
def rch : Nat := 140737488351232

mutual
def okT : TX → Prop
  | .mk _ _ p n l => p.length ≤ rch ∧ n.length ≤ rch ∧ okTs l
def okTs : List TX → Prop
  | [] => True
  | x :: r => okT x ∧ okTs r
end

def depT : TX → Nat
  | .mk _ _ _ _ [] => 0
  | .mk _ _ _ _ (x :: _) => depT x + 1

/-- the text of a type of another kind than a list. -/
def leafT (k : Int) (p n : List Nat) : List Nat :=
  if k = 1 then [105, 110, 116] else if k = 2 then [98, 111, 111, 108] else if k = 3 then [116, 101, 120, 116] else if k = 4 then (if p = [] then n else (p ++ [46]) ++ n) else [63]

def showT : TX → List Nat
  | .mk k _ p n [] => if k = 5 then [91, 93, 63] else leafT k p n
  | .mk k _ p n (x :: _) => if k = 5 then [91, 93] ++ showT x else leafT k p n

theorem leafT_len {k : Int} {p n : List Nat} (hp : p.length ≤ rch) (hn : n.length ≤ rch) : (leafT k p n).length ≤ 2 * rch + 5 := by
  unfold leafT
  repeat' split
  all_goals first | omega | (simp; done) | (simp; omega)

theorem showT_len : ∀ (x : TX), okT x → (showT x).length ≤ 2 * depT x + (2 * rch + 5)
  | .mk k a p n [], h => by
    have := leafT_len (k := k) h.1 h.2.1
    simp only [showT, depT]
    split
    · first | (simp; done) | (simp; omega)
    · omega
  | .mk k a p n (x :: r), h => by
    have h1 := leafT_len (k := k) h.1 h.2.1
    have h2 := showT_len x h.2.2.1
    simp only [showT, depT]
    split
    · simp; omega
    · omega

theorem type_spec : ∀ (N : Nat) (x : TX), depT x ≤ N → N ≤ 300 → okT x → ∀ h : H, SCall Go.Proofs.Tryz.prog [] 8 [.agg (encT x)] none h (.ret (.str (showT x))) none h := by
  intro N
  induction N with
  | zero =>
    intro x hd hN ok h
    obtain ⟨k, a, p, n, l⟩ := x
    obtain ⟨hp, hn, _⟩ := ok
    refine SCall.pure0 rfl ?_ (by exact ⟨encT_in _, trivial⟩) (by exact trivial) h
    cases l with
    | cons y r => simp [depT] at hd
    | nil =>
    refine SCall.listed (fn := Go.Proofs.Tryz.f8) (by kernel_rfl) res8 (by kernel_rfl) (by kernel_rfl) (Nat.le_refl _) rfl trivial trivial ?_
    unfold rc8
    have hs : ∀ (q : List Nat), (k ≠ 5 → q = leafT k p n) → (k = 5 → q = [91, 93, 63]) → showT (.mk k a p n []) = q := by
      intro q h1 h2
      simp only [showT]
      split
      · rename_i e; exact (h2 e).symm
      · rename_i e; exact (h1 e).symm
    repeat (first | refine WR.seq ?_ | refine WR.block ?_ | refine WR.scope ?_ | refine WR.skip ?_ | refine WR.exit ?_ | refine WR.condT rfl ?_ | refine WR.condF rfl ?_ | refine WR.reg (WQ.runS [] 1000 _ _ _ _ rfl ?_) | refine WQ.nilS ?_ | refine WR.dreg hmix (DW.runS [] 1000 _ _ _ _ _ _ rfl ?_))
    refine WR.cond rfl (fun c1 => ?_) (fun c1 => ?_)
    · have c1 : k = 1 := of_decide_eq_true c1
      rw [hs [105, 110, 116] (fun _ => by simp [leafT, c1]) (fun e => by omega)]
      repeat (first | refine WR.seq ?_ | refine WR.block ?_ | refine WR.scope ?_ | refine WR.skip ?_ | refine WR.exit ?_ | refine WR.condT rfl ?_ | refine WR.condF rfl ?_ | refine WR.reg (WQ.runS [] 1000 _ _ _ _ rfl ?_) | refine WQ.nilS ?_ | refine WR.dreg hmix (DW.runS [] 1000 _ _ _ _ _ _ rfl ?_))
      refine WR.ret ⟨rfl, rfl, ⟨_, rfl, VLe.refl _⟩, fun b _ => rfl⟩
    have c1 : ¬ k = 1 := of_decide_eq_false c1
    repeat (first | refine WR.seq ?_ | refine WR.block ?_ | refine WR.scope ?_ | refine WR.skip ?_ | refine WR.exit ?_ | refine WR.condT rfl ?_ | refine WR.condF rfl ?_ | refine WR.reg (WQ.runS [] 1000 _ _ _ _ rfl ?_) | refine WQ.nilS ?_ | refine WR.dreg hmix (DW.runS [] 1000 _ _ _ _ _ _ rfl ?_))
    refine WR.cond rfl (fun c2 => ?_) (fun c2 => ?_)
    · have c2 : k = 2 := of_decide_eq_true c2
      rw [hs [98, 111, 111, 108] (fun _ => by simp [leafT, c2]) (fun e => by omega)]
      repeat (first | refine WR.seq ?_ | refine WR.block ?_ | refine WR.scope ?_ | refine WR.skip ?_ | refine WR.exit ?_ | refine WR.condT rfl ?_ | refine WR.condF rfl ?_ | refine WR.reg (WQ.runS [] 1000 _ _ _ _ rfl ?_) | refine WQ.nilS ?_ | refine WR.dreg hmix (DW.runS [] 1000 _ _ _ _ _ _ rfl ?_))
      refine WR.ret ⟨rfl, rfl, ⟨_, rfl, VLe.refl _⟩, fun b _ => rfl⟩
    have c2 : ¬ k = 2 := of_decide_eq_false c2
    repeat (first | refine WR.seq ?_ | refine WR.block ?_ | refine WR.scope ?_ | refine WR.skip ?_ | refine WR.exit ?_ | refine WR.condT rfl ?_ | refine WR.condF rfl ?_ | refine WR.reg (WQ.runS [] 1000 _ _ _ _ rfl ?_) | refine WQ.nilS ?_ | refine WR.dreg hmix (DW.runS [] 1000 _ _ _ _ _ _ rfl ?_))
    refine WR.cond rfl (fun c3 => ?_) (fun c3 => ?_)
    · have c3 : k = 3 := of_decide_eq_true c3
      rw [hs [116, 101, 120, 116] (fun _ => by simp [leafT, c3]) (fun e => by omega)]
      repeat (first | refine WR.seq ?_ | refine WR.block ?_ | refine WR.scope ?_ | refine WR.skip ?_ | refine WR.exit ?_ | refine WR.condT rfl ?_ | refine WR.condF rfl ?_ | refine WR.reg (WQ.runS [] 1000 _ _ _ _ rfl ?_) | refine WQ.nilS ?_ | refine WR.dreg hmix (DW.runS [] 1000 _ _ _ _ _ _ rfl ?_))
      refine WR.ret ⟨rfl, rfl, ⟨_, rfl, VLe.refl _⟩, fun b _ => rfl⟩
    have c3 : ¬ k = 3 := of_decide_eq_false c3
    repeat (first | refine WR.seq ?_ | refine WR.block ?_ | refine WR.scope ?_ | refine WR.skip ?_ | refine WR.exit ?_ | refine WR.condT rfl ?_ | refine WR.condF rfl ?_ | refine WR.reg (WQ.runS [] 1000 _ _ _ _ rfl ?_) | refine WQ.nilS ?_ | refine WR.dreg hmix (DW.runS [] 1000 _ _ _ _ _ _ rfl ?_))
    refine WR.cond rfl (fun c4 => ?_) (fun c4 => ?_)
    · have c4 : k = 4 := of_decide_eq_true c4
      repeat (first | refine WR.seq ?_ | refine WR.block ?_ | refine WR.scope ?_ | refine WR.skip ?_ | refine WR.exit ?_ | refine WR.condT rfl ?_ | refine WR.condF rfl ?_ | refine WR.reg (WQ.runS [] 1000 _ _ _ _ rfl ?_) | refine WQ.nilS ?_ | refine WR.dreg hmix (DW.runS [] 1000 _ _ _ _ _ _ rfl ?_))
      refine WR.cond rfl (fun c6 => ?_) (fun c6 => ?_)
      · have c6 : p = [] := of_decide_eq_true c6
        rw [hs n (fun _ => by simp [leafT, c4, c6]) (fun e => by omega)]
        repeat (first | refine WR.seq ?_ | refine WR.block ?_ | refine WR.scope ?_ | refine WR.skip ?_ | refine WR.exit ?_ | refine WR.condT rfl ?_ | refine WR.condF rfl ?_ | refine WR.reg (WQ.runS [] 1000 _ _ _ _ rfl ?_) | refine WQ.nilS ?_ | refine WR.dreg hmix (DW.runS [] 1000 _ _ _ _ _ _ rfl ?_))
        refine WR.ret ⟨rfl, rfl, ⟨_, rfl, VLe.refl _⟩, fun b _ => rfl⟩
      · have c6 : ¬ p = [] := of_decide_eq_false c6
        rw [hs ((p ++ [46]) ++ n) (fun _ => by simp [leafT, c4, c6]) (fun e => by omega)]
        refine WR.skip ?_
        refine WR.seq (WR.reg (WQ.runS [] 2 _ _ _ _ rfl ?_))
        refine WQ.lightS rfl rfl rfl (add_strW rfl rfl (by simp; unfold slim; unfold rch at hp; omega) _) rfl (WQ.runS [] 2 _ _ _ _ rfl ?_)
        refine WQ.lightS rfl rfl rfl (add_strW rfl rfl (by simp; unfold slim; unfold rch at hp hn; omega) _) rfl (WQ.runS [] 1000 _ _ _ _ rfl (WQ.nilS ?_))
        refine WR.ret ⟨rfl, rfl, ⟨_, rfl, VLe.refl _⟩, fun b _ => rfl⟩
    have c4 : ¬ k = 4 := of_decide_eq_false c4
    repeat (first | refine WR.seq ?_ | refine WR.block ?_ | refine WR.scope ?_ | refine WR.skip ?_ | refine WR.exit ?_ | refine WR.condT rfl ?_ | refine WR.condF rfl ?_ | refine WR.reg (WQ.runS [] 1000 _ _ _ _ rfl ?_) | refine WQ.nilS ?_ | refine WR.dreg hmix (DW.runS [] 1000 _ _ _ _ _ _ rfl ?_))
    refine WR.cond rfl (fun c5 => ?_) (fun c5 => ?_)
    · have c5 : k = 5 := of_decide_eq_true c5
      rw [hs [91, 93, 63] (fun e => absurd c5 e) (fun _ => rfl)]
      repeat (first | refine WR.seq ?_ | refine WR.block ?_ | refine WR.scope ?_ | refine WR.skip ?_ | refine WR.exit ?_ | refine WR.condT rfl ?_ | refine WR.condF rfl ?_ | refine WR.reg (WQ.runS [] 1000 _ _ _ _ rfl ?_) | refine WQ.nilS ?_ | refine WR.dreg hmix (DW.runS [] 1000 _ _ _ _ _ _ rfl ?_))
      refine WR.ret ⟨rfl, rfl, ⟨_, rfl, VLe.refl _⟩, fun b _ => rfl⟩
    · have c5 : ¬ k = 5 := of_decide_eq_false c5
      rw [hs [63] (fun _ => by simp [leafT, c1, c2, c3, c4]) (fun e => absurd e c5)]
      repeat (first | refine WR.seq ?_ | refine WR.block ?_ | refine WR.scope ?_ | refine WR.skip ?_ | refine WR.exit ?_ | refine WR.condT rfl ?_ | refine WR.condF rfl ?_ | refine WR.reg (WQ.runS [] 1000 _ _ _ _ rfl ?_) | refine WQ.nilS ?_ | refine WR.dreg hmix (DW.runS [] 1000 _ _ _ _ _ _ rfl ?_))
      refine WR.ret ⟨rfl, rfl, ⟨_, rfl, VLe.refl _⟩, fun b _ => rfl⟩
  | succ N ih =>
    intro x hd hN ok h
    obtain ⟨k, a, p, n, l⟩ := x
    obtain ⟨hp, hn, ok2⟩ := ok
    refine SCall.pure0 rfl ?_ (by exact ⟨encT_in _, trivial⟩) (by exact trivial) h
    cases l with
    | nil =>
      refine SCall.listed (fn := Go.Proofs.Tryz.f8) (by kernel_rfl) res8 (by kernel_rfl) (by kernel_rfl) (Nat.le_refl _) rfl trivial trivial ?_
      unfold rc8
      have hs : ∀ (q : List Nat), (k ≠ 5 → q = leafT k p n) → (k = 5 → q = [91, 93, 63]) → showT (.mk k a p n []) = q := by
        intro q h1 h2
        simp only [showT]
        split
        · rename_i e; exact (h2 e).symm
        · rename_i e; exact (h1 e).symm
      repeat (first | refine WR.seq ?_ | refine WR.block ?_ | refine WR.scope ?_ | refine WR.skip ?_ | refine WR.exit ?_ | refine WR.condT rfl ?_ | refine WR.condF rfl ?_ | refine WR.reg (WQ.runS [] 1000 _ _ _ _ rfl ?_) | refine WQ.nilS ?_ | refine WR.dreg hmix (DW.runS [] 1000 _ _ _ _ _ _ rfl ?_))
      refine WR.cond rfl (fun c1 => ?_) (fun c1 => ?_)
      · have c1 : k = 1 := of_decide_eq_true c1
        rw [hs [105, 110, 116] (fun _ => by simp [leafT, c1]) (fun e => by omega)]
        repeat (first | refine WR.seq ?_ | refine WR.block ?_ | refine WR.scope ?_ | refine WR.skip ?_ | refine WR.exit ?_ | refine WR.condT rfl ?_ | refine WR.condF rfl ?_ | refine WR.reg (WQ.runS [] 1000 _ _ _ _ rfl ?_) | refine WQ.nilS ?_ | refine WR.dreg hmix (DW.runS [] 1000 _ _ _ _ _ _ rfl ?_))
        refine WR.ret ⟨rfl, rfl, ⟨_, rfl, VLe.refl _⟩, fun b _ => rfl⟩
      have c1 : ¬ k = 1 := of_decide_eq_false c1
      repeat (first | refine WR.seq ?_ | refine WR.block ?_ | refine WR.scope ?_ | refine WR.skip ?_ | refine WR.exit ?_ | refine WR.condT rfl ?_ | refine WR.condF rfl ?_ | refine WR.reg (WQ.runS [] 1000 _ _ _ _ rfl ?_) | refine WQ.nilS ?_ | refine WR.dreg hmix (DW.runS [] 1000 _ _ _ _ _ _ rfl ?_))
      refine WR.cond rfl (fun c2 => ?_) (fun c2 => ?_)
      · have c2 : k = 2 := of_decide_eq_true c2
        rw [hs [98, 111, 111, 108] (fun _ => by simp [leafT, c2]) (fun e => by omega)]
        repeat (first | refine WR.seq ?_ | refine WR.block ?_ | refine WR.scope ?_ | refine WR.skip ?_ | refine WR.exit ?_ | refine WR.condT rfl ?_ | refine WR.condF rfl ?_ | refine WR.reg (WQ.runS [] 1000 _ _ _ _ rfl ?_) | refine WQ.nilS ?_ | refine WR.dreg hmix (DW.runS [] 1000 _ _ _ _ _ _ rfl ?_))
        refine WR.ret ⟨rfl, rfl, ⟨_, rfl, VLe.refl _⟩, fun b _ => rfl⟩
      have c2 : ¬ k = 2 := of_decide_eq_false c2
      repeat (first | refine WR.seq ?_ | refine WR.block ?_ | refine WR.scope ?_ | refine WR.skip ?_ | refine WR.exit ?_ | refine WR.condT rfl ?_ | refine WR.condF rfl ?_ | refine WR.reg (WQ.runS [] 1000 _ _ _ _ rfl ?_) | refine WQ.nilS ?_ | refine WR.dreg hmix (DW.runS [] 1000 _ _ _ _ _ _ rfl ?_))
      refine WR.cond rfl (fun c3 => ?_) (fun c3 => ?_)
      · have c3 : k = 3 := of_decide_eq_true c3
        rw [hs [116, 101, 120, 116] (fun _ => by simp [leafT, c3]) (fun e => by omega)]
        repeat (first | refine WR.seq ?_ | refine WR.block ?_ | refine WR.scope ?_ | refine WR.skip ?_ | refine WR.exit ?_ | refine WR.condT rfl ?_ | refine WR.condF rfl ?_ | refine WR.reg (WQ.runS [] 1000 _ _ _ _ rfl ?_) | refine WQ.nilS ?_ | refine WR.dreg hmix (DW.runS [] 1000 _ _ _ _ _ _ rfl ?_))
        refine WR.ret ⟨rfl, rfl, ⟨_, rfl, VLe.refl _⟩, fun b _ => rfl⟩
      have c3 : ¬ k = 3 := of_decide_eq_false c3
      repeat (first | refine WR.seq ?_ | refine WR.block ?_ | refine WR.scope ?_ | refine WR.skip ?_ | refine WR.exit ?_ | refine WR.condT rfl ?_ | refine WR.condF rfl ?_ | refine WR.reg (WQ.runS [] 1000 _ _ _ _ rfl ?_) | refine WQ.nilS ?_ | refine WR.dreg hmix (DW.runS [] 1000 _ _ _ _ _ _ rfl ?_))
      refine WR.cond rfl (fun c4 => ?_) (fun c4 => ?_)
      · have c4 : k = 4 := of_decide_eq_true c4
        repeat (first | refine WR.seq ?_ | refine WR.block ?_ | refine WR.scope ?_ | refine WR.skip ?_ | refine WR.exit ?_ | refine WR.condT rfl ?_ | refine WR.condF rfl ?_ | refine WR.reg (WQ.runS [] 1000 _ _ _ _ rfl ?_) | refine WQ.nilS ?_ | refine WR.dreg hmix (DW.runS [] 1000 _ _ _ _ _ _ rfl ?_))
        refine WR.cond rfl (fun c6 => ?_) (fun c6 => ?_)
        · have c6 : p = [] := of_decide_eq_true c6
          rw [hs n (fun _ => by simp [leafT, c4, c6]) (fun e => by omega)]
          repeat (first | refine WR.seq ?_ | refine WR.block ?_ | refine WR.scope ?_ | refine WR.skip ?_ | refine WR.exit ?_ | refine WR.condT rfl ?_ | refine WR.condF rfl ?_ | refine WR.reg (WQ.runS [] 1000 _ _ _ _ rfl ?_) | refine WQ.nilS ?_ | refine WR.dreg hmix (DW.runS [] 1000 _ _ _ _ _ _ rfl ?_))
          refine WR.ret ⟨rfl, rfl, ⟨_, rfl, VLe.refl _⟩, fun b _ => rfl⟩
        · have c6 : ¬ p = [] := of_decide_eq_false c6
          rw [hs ((p ++ [46]) ++ n) (fun _ => by simp [leafT, c4, c6]) (fun e => by omega)]
          refine WR.skip ?_
          refine WR.seq (WR.reg (WQ.runS [] 2 _ _ _ _ rfl ?_))
          refine WQ.lightS rfl rfl rfl (add_strW rfl rfl (by simp; unfold slim; unfold rch at hp; omega) _) rfl (WQ.runS [] 2 _ _ _ _ rfl ?_)
          refine WQ.lightS rfl rfl rfl (add_strW rfl rfl (by simp; unfold slim; unfold rch at hp hn; omega) _) rfl (WQ.runS [] 1000 _ _ _ _ rfl (WQ.nilS ?_))
          refine WR.ret ⟨rfl, rfl, ⟨_, rfl, VLe.refl _⟩, fun b _ => rfl⟩
      have c4 : ¬ k = 4 := of_decide_eq_false c4
      repeat (first | refine WR.seq ?_ | refine WR.block ?_ | refine WR.scope ?_ | refine WR.skip ?_ | refine WR.exit ?_ | refine WR.condT rfl ?_ | refine WR.condF rfl ?_ | refine WR.reg (WQ.runS [] 1000 _ _ _ _ rfl ?_) | refine WQ.nilS ?_ | refine WR.dreg hmix (DW.runS [] 1000 _ _ _ _ _ _ rfl ?_))
      refine WR.cond rfl (fun c5 => ?_) (fun c5 => ?_)
      · have c5 : k = 5 := of_decide_eq_true c5
        rw [hs [91, 93, 63] (fun e => absurd c5 e) (fun _ => rfl)]
        repeat (first | refine WR.seq ?_ | refine WR.block ?_ | refine WR.scope ?_ | refine WR.skip ?_ | refine WR.exit ?_ | refine WR.condT rfl ?_ | refine WR.condF rfl ?_ | refine WR.reg (WQ.runS [] 1000 _ _ _ _ rfl ?_) | refine WQ.nilS ?_ | refine WR.dreg hmix (DW.runS [] 1000 _ _ _ _ _ _ rfl ?_))
        refine WR.ret ⟨rfl, rfl, ⟨_, rfl, VLe.refl _⟩, fun b _ => rfl⟩
      · have c5 : ¬ k = 5 := of_decide_eq_false c5
        rw [hs [63] (fun _ => by simp [leafT, c1, c2, c3, c4]) (fun e => absurd e c5)]
        repeat (first | refine WR.seq ?_ | refine WR.block ?_ | refine WR.scope ?_ | refine WR.skip ?_ | refine WR.exit ?_ | refine WR.condT rfl ?_ | refine WR.condF rfl ?_ | refine WR.reg (WQ.runS [] 1000 _ _ _ _ rfl ?_) | refine WQ.nilS ?_ | refine WR.dreg hmix (DW.runS [] 1000 _ _ _ _ _ _ rfl ?_))
        refine WR.ret ⟨rfl, rfl, ⟨_, rfl, VLe.refl _⟩, fun b _ => rfl⟩
    | cons y r =>
      refine SCall.listed (fn := Go.Proofs.Tryz.f8) (by kernel_rfl) res8 (by kernel_rfl) (by kernel_rfl) (Nat.le_refl _) rfl trivial trivial ?_
      unfold rc8
      have hs : ∀ (q : List Nat), (k ≠ 5 → q = leafT k p n) → (k = 5 → q = [91, 93] ++ showT y) → showT (.mk k a p n (y :: r)) = q := by
        intro q h1 h2
        simp only [showT]
        split
        · rename_i e; exact (h2 e).symm
        · rename_i e; exact (h1 e).symm
      repeat (first | refine WR.seq ?_ | refine WR.block ?_ | refine WR.scope ?_ | refine WR.skip ?_ | refine WR.exit ?_ | refine WR.condT rfl ?_ | refine WR.condF rfl ?_ | refine WR.reg (WQ.runS [] 1000 _ _ _ _ rfl ?_) | refine WQ.nilS ?_ | refine WR.dreg hmix (DW.runS [] 1000 _ _ _ _ _ _ rfl ?_))
      refine WR.cond rfl (fun c1 => ?_) (fun c1 => ?_)
      · have c1 : k = 1 := of_decide_eq_true c1
        rw [hs [105, 110, 116] (fun _ => by simp [leafT, c1]) (fun e => by omega)]
        repeat (first | refine WR.seq ?_ | refine WR.block ?_ | refine WR.scope ?_ | refine WR.skip ?_ | refine WR.exit ?_ | refine WR.condT rfl ?_ | refine WR.condF rfl ?_ | refine WR.reg (WQ.runS [] 1000 _ _ _ _ rfl ?_) | refine WQ.nilS ?_ | refine WR.dreg hmix (DW.runS [] 1000 _ _ _ _ _ _ rfl ?_))
        refine WR.ret ⟨rfl, rfl, ⟨_, rfl, VLe.refl _⟩, fun b _ => rfl⟩
      have c1 : ¬ k = 1 := of_decide_eq_false c1
      repeat (first | refine WR.seq ?_ | refine WR.block ?_ | refine WR.scope ?_ | refine WR.skip ?_ | refine WR.exit ?_ | refine WR.condT rfl ?_ | refine WR.condF rfl ?_ | refine WR.reg (WQ.runS [] 1000 _ _ _ _ rfl ?_) | refine WQ.nilS ?_ | refine WR.dreg hmix (DW.runS [] 1000 _ _ _ _ _ _ rfl ?_))
      refine WR.cond rfl (fun c2 => ?_) (fun c2 => ?_)
      · have c2 : k = 2 := of_decide_eq_true c2
        rw [hs [98, 111, 111, 108] (fun _ => by simp [leafT, c2]) (fun e => by omega)]
        repeat (first | refine WR.seq ?_ | refine WR.block ?_ | refine WR.scope ?_ | refine WR.skip ?_ | refine WR.exit ?_ | refine WR.condT rfl ?_ | refine WR.condF rfl ?_ | refine WR.reg (WQ.runS [] 1000 _ _ _ _ rfl ?_) | refine WQ.nilS ?_ | refine WR.dreg hmix (DW.runS [] 1000 _ _ _ _ _ _ rfl ?_))
        refine WR.ret ⟨rfl, rfl, ⟨_, rfl, VLe.refl _⟩, fun b _ => rfl⟩
      have c2 : ¬ k = 2 := of_decide_eq_false c2
      repeat (first | refine WR.seq ?_ | refine WR.block ?_ | refine WR.scope ?_ | refine WR.skip ?_ | refine WR.exit ?_ | refine WR.condT rfl ?_ | refine WR.condF rfl ?_ | refine WR.reg (WQ.runS [] 1000 _ _ _ _ rfl ?_) | refine WQ.nilS ?_ | refine WR.dreg hmix (DW.runS [] 1000 _ _ _ _ _ _ rfl ?_))
      refine WR.cond rfl (fun c3 => ?_) (fun c3 => ?_)
      · have c3 : k = 3 := of_decide_eq_true c3
        rw [hs [116, 101, 120, 116] (fun _ => by simp [leafT, c3]) (fun e => by omega)]
        repeat (first | refine WR.seq ?_ | refine WR.block ?_ | refine WR.scope ?_ | refine WR.skip ?_ | refine WR.exit ?_ | refine WR.condT rfl ?_ | refine WR.condF rfl ?_ | refine WR.reg (WQ.runS [] 1000 _ _ _ _ rfl ?_) | refine WQ.nilS ?_ | refine WR.dreg hmix (DW.runS [] 1000 _ _ _ _ _ _ rfl ?_))
        refine WR.ret ⟨rfl, rfl, ⟨_, rfl, VLe.refl _⟩, fun b _ => rfl⟩
      have c3 : ¬ k = 3 := of_decide_eq_false c3
      repeat (first | refine WR.seq ?_ | refine WR.block ?_ | refine WR.scope ?_ | refine WR.skip ?_ | refine WR.exit ?_ | refine WR.condT rfl ?_ | refine WR.condF rfl ?_ | refine WR.reg (WQ.runS [] 1000 _ _ _ _ rfl ?_) | refine WQ.nilS ?_ | refine WR.dreg hmix (DW.runS [] 1000 _ _ _ _ _ _ rfl ?_))
      refine WR.cond rfl (fun c4 => ?_) (fun c4 => ?_)
      · have c4 : k = 4 := of_decide_eq_true c4
        repeat (first | refine WR.seq ?_ | refine WR.block ?_ | refine WR.scope ?_ | refine WR.skip ?_ | refine WR.exit ?_ | refine WR.condT rfl ?_ | refine WR.condF rfl ?_ | refine WR.reg (WQ.runS [] 1000 _ _ _ _ rfl ?_) | refine WQ.nilS ?_ | refine WR.dreg hmix (DW.runS [] 1000 _ _ _ _ _ _ rfl ?_))
        refine WR.cond rfl (fun c6 => ?_) (fun c6 => ?_)
        · have c6 : p = [] := of_decide_eq_true c6
          rw [hs n (fun _ => by simp [leafT, c4, c6]) (fun e => by omega)]
          repeat (first | refine WR.seq ?_ | refine WR.block ?_ | refine WR.scope ?_ | refine WR.skip ?_ | refine WR.exit ?_ | refine WR.condT rfl ?_ | refine WR.condF rfl ?_ | refine WR.reg (WQ.runS [] 1000 _ _ _ _ rfl ?_) | refine WQ.nilS ?_ | refine WR.dreg hmix (DW.runS [] 1000 _ _ _ _ _ _ rfl ?_))
          refine WR.ret ⟨rfl, rfl, ⟨_, rfl, VLe.refl _⟩, fun b _ => rfl⟩
        · have c6 : ¬ p = [] := of_decide_eq_false c6
          rw [hs ((p ++ [46]) ++ n) (fun _ => by simp [leafT, c4, c6]) (fun e => by omega)]
          refine WR.skip ?_
          refine WR.seq (WR.reg (WQ.runS [] 2 _ _ _ _ rfl ?_))
          refine WQ.lightS rfl rfl rfl (add_strW rfl rfl (by simp; unfold slim; unfold rch at hp; omega) _) rfl (WQ.runS [] 2 _ _ _ _ rfl ?_)
          refine WQ.lightS rfl rfl rfl (add_strW rfl rfl (by simp; unfold slim; unfold rch at hp hn; omega) _) rfl (WQ.runS [] 1000 _ _ _ _ rfl (WQ.nilS ?_))
          refine WR.ret ⟨rfl, rfl, ⟨_, rfl, VLe.refl _⟩, fun b _ => rfl⟩
      have c4 : ¬ k = 4 := of_decide_eq_false c4
      repeat (first | refine WR.seq ?_ | refine WR.block ?_ | refine WR.scope ?_ | refine WR.skip ?_ | refine WR.exit ?_ | refine WR.condT rfl ?_ | refine WR.condF rfl ?_ | refine WR.reg (WQ.runS [] 1000 _ _ _ _ rfl ?_) | refine WQ.nilS ?_ | refine WR.dreg hmix (DW.runS [] 1000 _ _ _ _ _ _ rfl ?_))
      refine WR.cond rfl (fun c5 => ?_) (fun c5 => ?_)
      · have c5 : k = 5 := of_decide_eq_true c5
        rw [hs ([91, 93] ++ showT y) (fun e => absurd c5 e) (fun _ => rfl)]
        have hdy : depT y ≤ N := by simp only [depT] at hd; omega
        have hly := showT_len y ok2.1
        have sc := ih y hdy (by omega) ok2.1
        obtain ⟨k2, a2, p2, n2, l2⟩ := y
        refine WR.seq (WR.seq (WR.reg (WQ.runS [] 1000 _ _ _ _ rfl (WQ.nilS ?_))))
        refine WR.cond rfl (fun c7 => ?_) (fun c7 => ?_)
        rotate_left
        · have c7 := of_decide_eq_false c7
          simp [encTs] at c7
        refine WR.seq (WR.reg (WQ.runS [] 4 _ _ _ _ rfl ?_))
        refine WQ.callH rfl rfl rfl rfl rfl (sc _) .base rfl ?_
        refine WQ.lightS rfl rfl rfl (add_strW rfl rfl (by simp; unfold slim; unfold rch at hly; omega) _) rfl (WQ.runS [] 1000 _ _ _ _ rfl (WQ.nilS ?_))
        refine WR.ret ⟨rfl, rfl, ⟨_, rfl, VLe.refl _⟩, fun b _ => rfl⟩
      · have c5 : ¬ k = 5 := of_decide_eq_false c5
        rw [hs [63] (fun _ => by simp [leafT, c1, c2, c3, c4]) (fun e => absurd e c5)]
        repeat (first | refine WR.seq ?_ | refine WR.block ?_ | refine WR.scope ?_ | refine WR.skip ?_ | refine WR.exit ?_ | refine WR.condT rfl ?_ | refine WR.condF rfl ?_ | refine WR.reg (WQ.runS [] 1000 _ _ _ _ rfl ?_) | refine WQ.nilS ?_ | refine WR.dreg hmix (DW.runS [] 1000 _ _ _ _ _ _ rfl ?_))
        refine WR.ret ⟨rfl, rfl, ⟨_, rfl, VLe.refl _⟩, fun b _ => rfl⟩
theorem typeR_spec : ∀ (N : Nat) (x : TX), depT x ≤ N → N ≤ 300 → okT x → ∀ h : H, SCall Go.Proofs.Tryz.prog [] 9 [.agg (encT x)] none h (.ret (.str (showT x))) none h := by
  intro N
  induction N with
  | zero =>
    intro x hd hN ok h
    obtain ⟨k, a, p, n, l⟩ := x
    obtain ⟨hp, hn, _⟩ := ok
    refine SCall.pure0 rfl ?_ (by exact ⟨encT_in _, trivial⟩) (by exact trivial) h
    cases l with
    | cons y r => simp [depT] at hd
    | nil =>
    refine SCall.listed (fn := Go.Proofs.Tryz.f9) (by kernel_rfl) res9 (by kernel_rfl) (by kernel_rfl) (Nat.le_refl _) rfl trivial trivial ?_
    unfold rc9
    have hs : ∀ (q : List Nat), (k ≠ 5 → q = leafT k p n) → (k = 5 → q = [91, 93, 63]) → showT (.mk k a p n []) = q := by
      intro q h1 h2
      simp only [showT]
      split
      · rename_i e; exact (h2 e).symm
      · rename_i e; exact (h1 e).symm
    repeat (first | refine WR.seq ?_ | refine WR.block ?_ | refine WR.scope ?_ | refine WR.skip ?_ | refine WR.exit ?_ | refine WR.condT rfl ?_ | refine WR.condF rfl ?_ | refine WR.reg (WQ.runS [] 1000 _ _ _ _ rfl ?_) | refine WQ.nilS ?_ | refine WR.dreg hmix (DW.runS [] 1000 _ _ _ _ _ _ rfl ?_))
    refine WR.cond rfl (fun c1 => ?_) (fun c1 => ?_)
    · have c1 : k = 1 := of_decide_eq_true c1
      rw [hs [105, 110, 116] (fun _ => by simp [leafT, c1]) (fun e => by omega)]
      repeat (first | refine WR.seq ?_ | refine WR.block ?_ | refine WR.scope ?_ | refine WR.skip ?_ | refine WR.exit ?_ | refine WR.condT rfl ?_ | refine WR.condF rfl ?_ | refine WR.reg (WQ.runS [] 1000 _ _ _ _ rfl ?_) | refine WQ.nilS ?_ | refine WR.dreg hmix (DW.runS [] 1000 _ _ _ _ _ _ rfl ?_))
      refine WR.ret ⟨rfl, rfl, ⟨_, rfl, VLe.refl _⟩, fun b _ => rfl⟩
    have c1 : ¬ k = 1 := of_decide_eq_false c1
    repeat (first | refine WR.seq ?_ | refine WR.block ?_ | refine WR.scope ?_ | refine WR.skip ?_ | refine WR.exit ?_ | refine WR.condT rfl ?_ | refine WR.condF rfl ?_ | refine WR.reg (WQ.runS [] 1000 _ _ _ _ rfl ?_) | refine WQ.nilS ?_ | refine WR.dreg hmix (DW.runS [] 1000 _ _ _ _ _ _ rfl ?_))
    refine WR.cond rfl (fun c2 => ?_) (fun c2 => ?_)
    · have c2 : k = 2 := of_decide_eq_true c2
      rw [hs [98, 111, 111, 108] (fun _ => by simp [leafT, c2]) (fun e => by omega)]
      repeat (first | refine WR.seq ?_ | refine WR.block ?_ | refine WR.scope ?_ | refine WR.skip ?_ | refine WR.exit ?_ | refine WR.condT rfl ?_ | refine WR.condF rfl ?_ | refine WR.reg (WQ.runS [] 1000 _ _ _ _ rfl ?_) | refine WQ.nilS ?_ | refine WR.dreg hmix (DW.runS [] 1000 _ _ _ _ _ _ rfl ?_))
      refine WR.ret ⟨rfl, rfl, ⟨_, rfl, VLe.refl _⟩, fun b _ => rfl⟩
    have c2 : ¬ k = 2 := of_decide_eq_false c2
    repeat (first | refine WR.seq ?_ | refine WR.block ?_ | refine WR.scope ?_ | refine WR.skip ?_ | refine WR.exit ?_ | refine WR.condT rfl ?_ | refine WR.condF rfl ?_ | refine WR.reg (WQ.runS [] 1000 _ _ _ _ rfl ?_) | refine WQ.nilS ?_ | refine WR.dreg hmix (DW.runS [] 1000 _ _ _ _ _ _ rfl ?_))
    refine WR.cond rfl (fun c3 => ?_) (fun c3 => ?_)
    · have c3 : k = 3 := of_decide_eq_true c3
      rw [hs [116, 101, 120, 116] (fun _ => by simp [leafT, c3]) (fun e => by omega)]
      repeat (first | refine WR.seq ?_ | refine WR.block ?_ | refine WR.scope ?_ | refine WR.skip ?_ | refine WR.exit ?_ | refine WR.condT rfl ?_ | refine WR.condF rfl ?_ | refine WR.reg (WQ.runS [] 1000 _ _ _ _ rfl ?_) | refine WQ.nilS ?_ | refine WR.dreg hmix (DW.runS [] 1000 _ _ _ _ _ _ rfl ?_))
      refine WR.ret ⟨rfl, rfl, ⟨_, rfl, VLe.refl _⟩, fun b _ => rfl⟩
    have c3 : ¬ k = 3 := of_decide_eq_false c3
    repeat (first | refine WR.seq ?_ | refine WR.block ?_ | refine WR.scope ?_ | refine WR.skip ?_ | refine WR.exit ?_ | refine WR.condT rfl ?_ | refine WR.condF rfl ?_ | refine WR.reg (WQ.runS [] 1000 _ _ _ _ rfl ?_) | refine WQ.nilS ?_ | refine WR.dreg hmix (DW.runS [] 1000 _ _ _ _ _ _ rfl ?_))
    refine WR.cond rfl (fun c4 => ?_) (fun c4 => ?_)
    · have c4 : k = 4 := of_decide_eq_true c4
      repeat (first | refine WR.seq ?_ | refine WR.block ?_ | refine WR.scope ?_ | refine WR.skip ?_ | refine WR.exit ?_ | refine WR.condT rfl ?_ | refine WR.condF rfl ?_ | refine WR.reg (WQ.runS [] 1000 _ _ _ _ rfl ?_) | refine WQ.nilS ?_ | refine WR.dreg hmix (DW.runS [] 1000 _ _ _ _ _ _ rfl ?_))
      refine WR.cond rfl (fun c6 => ?_) (fun c6 => ?_)
      · have c6 : ¬ p = [] := by simpa using c6
        rw [hs ((p ++ [46]) ++ n) (fun _ => by simp [leafT, c4, c6]) (fun e => by omega)]
        refine WR.seq (WR.reg (WQ.runS [] 2 _ _ _ _ rfl ?_))
        refine WQ.lightS rfl rfl rfl (add_strW rfl rfl (by simp; unfold slim; unfold rch at hp; omega) _) rfl (WQ.runS [] 2 _ _ _ _ rfl ?_)
        refine WQ.lightS rfl rfl rfl (add_strW rfl rfl (by simp; unfold slim; unfold rch at hp hn; omega) _) rfl (WQ.runS [] 1000 _ _ _ _ rfl (WQ.nilS ?_))
        refine WR.ret ⟨rfl, rfl, ⟨_, rfl, VLe.refl _⟩, fun b _ => rfl⟩
      · have c6 : p = [] := by simpa using c6
        rw [hs n (fun _ => by simp [leafT, c4, c6]) (fun e => by omega)]
        repeat (first | refine WR.seq ?_ | refine WR.block ?_ | refine WR.scope ?_ | refine WR.skip ?_ | refine WR.exit ?_ | refine WR.condT rfl ?_ | refine WR.condF rfl ?_ | refine WR.reg (WQ.runS [] 1000 _ _ _ _ rfl ?_) | refine WQ.nilS ?_ | refine WR.dreg hmix (DW.runS [] 1000 _ _ _ _ _ _ rfl ?_))
        refine WR.ret ⟨rfl, rfl, ⟨_, rfl, VLe.refl _⟩, fun b _ => rfl⟩
    have c4 : ¬ k = 4 := of_decide_eq_false c4
    repeat (first | refine WR.seq ?_ | refine WR.block ?_ | refine WR.scope ?_ | refine WR.skip ?_ | refine WR.exit ?_ | refine WR.condT rfl ?_ | refine WR.condF rfl ?_ | refine WR.reg (WQ.runS [] 1000 _ _ _ _ rfl ?_) | refine WQ.nilS ?_ | refine WR.dreg hmix (DW.runS [] 1000 _ _ _ _ _ _ rfl ?_))
    refine WR.cond rfl (fun c5 => ?_) (fun c5 => ?_)
    · have c5 : k = 5 := of_decide_eq_true c5
      rw [hs [91, 93, 63] (fun e => absurd c5 e) (fun _ => rfl)]
      repeat (first | refine WR.seq ?_ | refine WR.block ?_ | refine WR.scope ?_ | refine WR.skip ?_ | refine WR.exit ?_ | refine WR.condT rfl ?_ | refine WR.condF rfl ?_ | refine WR.reg (WQ.runS [] 1000 _ _ _ _ rfl ?_) | refine WQ.nilS ?_ | refine WR.dreg hmix (DW.runS [] 1000 _ _ _ _ _ _ rfl ?_))
      refine WR.ret ⟨rfl, rfl, ⟨_, rfl, VLe.refl _⟩, fun b _ => rfl⟩
    · have c5 : ¬ k = 5 := of_decide_eq_false c5
      rw [hs [63] (fun _ => by simp [leafT, c1, c2, c3, c4]) (fun e => absurd e c5)]
      repeat (first | refine WR.seq ?_ | refine WR.block ?_ | refine WR.scope ?_ | refine WR.skip ?_ | refine WR.exit ?_ | refine WR.condT rfl ?_ | refine WR.condF rfl ?_ | refine WR.reg (WQ.runS [] 1000 _ _ _ _ rfl ?_) | refine WQ.nilS ?_ | refine WR.dreg hmix (DW.runS [] 1000 _ _ _ _ _ _ rfl ?_))
      refine WR.ret ⟨rfl, rfl, ⟨_, rfl, VLe.refl _⟩, fun b _ => rfl⟩
  | succ N ih =>
    intro x hd hN ok h
    obtain ⟨k, a, p, n, l⟩ := x
    obtain ⟨hp, hn, ok2⟩ := ok
    refine SCall.pure0 rfl ?_ (by exact ⟨encT_in _, trivial⟩) (by exact trivial) h
    cases l with
    | nil =>
      refine SCall.listed (fn := Go.Proofs.Tryz.f9) (by kernel_rfl) res9 (by kernel_rfl) (by kernel_rfl) (Nat.le_refl _) rfl trivial trivial ?_
      unfold rc9
      have hs : ∀ (q : List Nat), (k ≠ 5 → q = leafT k p n) → (k = 5 → q = [91, 93, 63]) → showT (.mk k a p n []) = q := by
        intro q h1 h2
        simp only [showT]
        split
        · rename_i e; exact (h2 e).symm
        · rename_i e; exact (h1 e).symm
      repeat (first | refine WR.seq ?_ | refine WR.block ?_ | refine WR.scope ?_ | refine WR.skip ?_ | refine WR.exit ?_ | refine WR.condT rfl ?_ | refine WR.condF rfl ?_ | refine WR.reg (WQ.runS [] 1000 _ _ _ _ rfl ?_) | refine WQ.nilS ?_ | refine WR.dreg hmix (DW.runS [] 1000 _ _ _ _ _ _ rfl ?_))
      refine WR.cond rfl (fun c1 => ?_) (fun c1 => ?_)
      · have c1 : k = 1 := of_decide_eq_true c1
        rw [hs [105, 110, 116] (fun _ => by simp [leafT, c1]) (fun e => by omega)]
        repeat (first | refine WR.seq ?_ | refine WR.block ?_ | refine WR.scope ?_ | refine WR.skip ?_ | refine WR.exit ?_ | refine WR.condT rfl ?_ | refine WR.condF rfl ?_ | refine WR.reg (WQ.runS [] 1000 _ _ _ _ rfl ?_) | refine WQ.nilS ?_ | refine WR.dreg hmix (DW.runS [] 1000 _ _ _ _ _ _ rfl ?_))
        refine WR.ret ⟨rfl, rfl, ⟨_, rfl, VLe.refl _⟩, fun b _ => rfl⟩
      have c1 : ¬ k = 1 := of_decide_eq_false c1
      repeat (first | refine WR.seq ?_ | refine WR.block ?_ | refine WR.scope ?_ | refine WR.skip ?_ | refine WR.exit ?_ | refine WR.condT rfl ?_ | refine WR.condF rfl ?_ | refine WR.reg (WQ.runS [] 1000 _ _ _ _ rfl ?_) | refine WQ.nilS ?_ | refine WR.dreg hmix (DW.runS [] 1000 _ _ _ _ _ _ rfl ?_))
      refine WR.cond rfl (fun c2 => ?_) (fun c2 => ?_)
      · have c2 : k = 2 := of_decide_eq_true c2
        rw [hs [98, 111, 111, 108] (fun _ => by simp [leafT, c2]) (fun e => by omega)]
        repeat (first | refine WR.seq ?_ | refine WR.block ?_ | refine WR.scope ?_ | refine WR.skip ?_ | refine WR.exit ?_ | refine WR.condT rfl ?_ | refine WR.condF rfl ?_ | refine WR.reg (WQ.runS [] 1000 _ _ _ _ rfl ?_) | refine WQ.nilS ?_ | refine WR.dreg hmix (DW.runS [] 1000 _ _ _ _ _ _ rfl ?_))
        refine WR.ret ⟨rfl, rfl, ⟨_, rfl, VLe.refl _⟩, fun b _ => rfl⟩
      have c2 : ¬ k = 2 := of_decide_eq_false c2
      repeat (first | refine WR.seq ?_ | refine WR.block ?_ | refine WR.scope ?_ | refine WR.skip ?_ | refine WR.exit ?_ | refine WR.condT rfl ?_ | refine WR.condF rfl ?_ | refine WR.reg (WQ.runS [] 1000 _ _ _ _ rfl ?_) | refine WQ.nilS ?_ | refine WR.dreg hmix (DW.runS [] 1000 _ _ _ _ _ _ rfl ?_))
      refine WR.cond rfl (fun c3 => ?_) (fun c3 => ?_)
      · have c3 : k = 3 := of_decide_eq_true c3
        rw [hs [116, 101, 120, 116] (fun _ => by simp [leafT, c3]) (fun e => by omega)]
        repeat (first | refine WR.seq ?_ | refine WR.block ?_ | refine WR.scope ?_ | refine WR.skip ?_ | refine WR.exit ?_ | refine WR.condT rfl ?_ | refine WR.condF rfl ?_ | refine WR.reg (WQ.runS [] 1000 _ _ _ _ rfl ?_) | refine WQ.nilS ?_ | refine WR.dreg hmix (DW.runS [] 1000 _ _ _ _ _ _ rfl ?_))
        refine WR.ret ⟨rfl, rfl, ⟨_, rfl, VLe.refl _⟩, fun b _ => rfl⟩
      have c3 : ¬ k = 3 := of_decide_eq_false c3
      repeat (first | refine WR.seq ?_ | refine WR.block ?_ | refine WR.scope ?_ | refine WR.skip ?_ | refine WR.exit ?_ | refine WR.condT rfl ?_ | refine WR.condF rfl ?_ | refine WR.reg (WQ.runS [] 1000 _ _ _ _ rfl ?_) | refine WQ.nilS ?_ | refine WR.dreg hmix (DW.runS [] 1000 _ _ _ _ _ _ rfl ?_))
      refine WR.cond rfl (fun c4 => ?_) (fun c4 => ?_)
      · have c4 : k = 4 := of_decide_eq_true c4
        repeat (first | refine WR.seq ?_ | refine WR.block ?_ | refine WR.scope ?_ | refine WR.skip ?_ | refine WR.exit ?_ | refine WR.condT rfl ?_ | refine WR.condF rfl ?_ | refine WR.reg (WQ.runS [] 1000 _ _ _ _ rfl ?_) | refine WQ.nilS ?_ | refine WR.dreg hmix (DW.runS [] 1000 _ _ _ _ _ _ rfl ?_))
        refine WR.cond rfl (fun c6 => ?_) (fun c6 => ?_)
        · have c6 : ¬ p = [] := by simpa using c6
          rw [hs ((p ++ [46]) ++ n) (fun _ => by simp [leafT, c4, c6]) (fun e => by omega)]
          refine WR.seq (WR.reg (WQ.runS [] 2 _ _ _ _ rfl ?_))
          refine WQ.lightS rfl rfl rfl (add_strW rfl rfl (by simp; unfold slim; unfold rch at hp; omega) _) rfl (WQ.runS [] 2 _ _ _ _ rfl ?_)
          refine WQ.lightS rfl rfl rfl (add_strW rfl rfl (by simp; unfold slim; unfold rch at hp hn; omega) _) rfl (WQ.runS [] 1000 _ _ _ _ rfl (WQ.nilS ?_))
          refine WR.ret ⟨rfl, rfl, ⟨_, rfl, VLe.refl _⟩, fun b _ => rfl⟩
        · have c6 : p = [] := by simpa using c6
          rw [hs n (fun _ => by simp [leafT, c4, c6]) (fun e => by omega)]
          repeat (first | refine WR.seq ?_ | refine WR.block ?_ | refine WR.scope ?_ | refine WR.skip ?_ | refine WR.exit ?_ | refine WR.condT rfl ?_ | refine WR.condF rfl ?_ | refine WR.reg (WQ.runS [] 1000 _ _ _ _ rfl ?_) | refine WQ.nilS ?_ | refine WR.dreg hmix (DW.runS [] 1000 _ _ _ _ _ _ rfl ?_))
          refine WR.ret ⟨rfl, rfl, ⟨_, rfl, VLe.refl _⟩, fun b _ => rfl⟩
      have c4 : ¬ k = 4 := of_decide_eq_false c4
      repeat (first | refine WR.seq ?_ | refine WR.block ?_ | refine WR.scope ?_ | refine WR.skip ?_ | refine WR.exit ?_ | refine WR.condT rfl ?_ | refine WR.condF rfl ?_ | refine WR.reg (WQ.runS [] 1000 _ _ _ _ rfl ?_) | refine WQ.nilS ?_ | refine WR.dreg hmix (DW.runS [] 1000 _ _ _ _ _ _ rfl ?_))
      refine WR.cond rfl (fun c5 => ?_) (fun c5 => ?_)
      · have c5 : k = 5 := of_decide_eq_true c5
        rw [hs [91, 93, 63] (fun e => absurd c5 e) (fun _ => rfl)]
        repeat (first | refine WR.seq ?_ | refine WR.block ?_ | refine WR.scope ?_ | refine WR.skip ?_ | refine WR.exit ?_ | refine WR.condT rfl ?_ | refine WR.condF rfl ?_ | refine WR.reg (WQ.runS [] 1000 _ _ _ _ rfl ?_) | refine WQ.nilS ?_ | refine WR.dreg hmix (DW.runS [] 1000 _ _ _ _ _ _ rfl ?_))
        refine WR.ret ⟨rfl, rfl, ⟨_, rfl, VLe.refl _⟩, fun b _ => rfl⟩
      · have c5 : ¬ k = 5 := of_decide_eq_false c5
        rw [hs [63] (fun _ => by simp [leafT, c1, c2, c3, c4]) (fun e => absurd e c5)]
        repeat (first | refine WR.seq ?_ | refine WR.block ?_ | refine WR.scope ?_ | refine WR.skip ?_ | refine WR.exit ?_ | refine WR.condT rfl ?_ | refine WR.condF rfl ?_ | refine WR.reg (WQ.runS [] 1000 _ _ _ _ rfl ?_) | refine WQ.nilS ?_ | refine WR.dreg hmix (DW.runS [] 1000 _ _ _ _ _ _ rfl ?_))
        refine WR.ret ⟨rfl, rfl, ⟨_, rfl, VLe.refl _⟩, fun b _ => rfl⟩
    | cons y r =>
      refine SCall.listed (fn := Go.Proofs.Tryz.f9) (by kernel_rfl) res9 (by kernel_rfl) (by kernel_rfl) (Nat.le_refl _) rfl trivial trivial ?_
      unfold rc9
      have hs : ∀ (q : List Nat), (k ≠ 5 → q = leafT k p n) → (k = 5 → q = [91, 93] ++ showT y) → showT (.mk k a p n (y :: r)) = q := by
        intro q h1 h2
        simp only [showT]
        split
        · rename_i e; exact (h2 e).symm
        · rename_i e; exact (h1 e).symm
      repeat (first | refine WR.seq ?_ | refine WR.block ?_ | refine WR.scope ?_ | refine WR.skip ?_ | refine WR.exit ?_ | refine WR.condT rfl ?_ | refine WR.condF rfl ?_ | refine WR.reg (WQ.runS [] 1000 _ _ _ _ rfl ?_) | refine WQ.nilS ?_ | refine WR.dreg hmix (DW.runS [] 1000 _ _ _ _ _ _ rfl ?_))
      refine WR.cond rfl (fun c1 => ?_) (fun c1 => ?_)
      · have c1 : k = 1 := of_decide_eq_true c1
        rw [hs [105, 110, 116] (fun _ => by simp [leafT, c1]) (fun e => by omega)]
        repeat (first | refine WR.seq ?_ | refine WR.block ?_ | refine WR.scope ?_ | refine WR.skip ?_ | refine WR.exit ?_ | refine WR.condT rfl ?_ | refine WR.condF rfl ?_ | refine WR.reg (WQ.runS [] 1000 _ _ _ _ rfl ?_) | refine WQ.nilS ?_ | refine WR.dreg hmix (DW.runS [] 1000 _ _ _ _ _ _ rfl ?_))
        refine WR.ret ⟨rfl, rfl, ⟨_, rfl, VLe.refl _⟩, fun b _ => rfl⟩
      have c1 : ¬ k = 1 := of_decide_eq_false c1
      repeat (first | refine WR.seq ?_ | refine WR.block ?_ | refine WR.scope ?_ | refine WR.skip ?_ | refine WR.exit ?_ | refine WR.condT rfl ?_ | refine WR.condF rfl ?_ | refine WR.reg (WQ.runS [] 1000 _ _ _ _ rfl ?_) | refine WQ.nilS ?_ | refine WR.dreg hmix (DW.runS [] 1000 _ _ _ _ _ _ rfl ?_))
      refine WR.cond rfl (fun c2 => ?_) (fun c2 => ?_)
      · have c2 : k = 2 := of_decide_eq_true c2
        rw [hs [98, 111, 111, 108] (fun _ => by simp [leafT, c2]) (fun e => by omega)]
        repeat (first | refine WR.seq ?_ | refine WR.block ?_ | refine WR.scope ?_ | refine WR.skip ?_ | refine WR.exit ?_ | refine WR.condT rfl ?_ | refine WR.condF rfl ?_ | refine WR.reg (WQ.runS [] 1000 _ _ _ _ rfl ?_) | refine WQ.nilS ?_ | refine WR.dreg hmix (DW.runS [] 1000 _ _ _ _ _ _ rfl ?_))
        refine WR.ret ⟨rfl, rfl, ⟨_, rfl, VLe.refl _⟩, fun b _ => rfl⟩
      have c2 : ¬ k = 2 := of_decide_eq_false c2
      repeat (first | refine WR.seq ?_ | refine WR.block ?_ | refine WR.scope ?_ | refine WR.skip ?_ | refine WR.exit ?_ | refine WR.condT rfl ?_ | refine WR.condF rfl ?_ | refine WR.reg (WQ.runS [] 1000 _ _ _ _ rfl ?_) | refine WQ.nilS ?_ | refine WR.dreg hmix (DW.runS [] 1000 _ _ _ _ _ _ rfl ?_))
      refine WR.cond rfl (fun c3 => ?_) (fun c3 => ?_)
      · have c3 : k = 3 := of_decide_eq_true c3
        rw [hs [116, 101, 120, 116] (fun _ => by simp [leafT, c3]) (fun e => by omega)]
        repeat (first | refine WR.seq ?_ | refine WR.block ?_ | refine WR.scope ?_ | refine WR.skip ?_ | refine WR.exit ?_ | refine WR.condT rfl ?_ | refine WR.condF rfl ?_ | refine WR.reg (WQ.runS [] 1000 _ _ _ _ rfl ?_) | refine WQ.nilS ?_ | refine WR.dreg hmix (DW.runS [] 1000 _ _ _ _ _ _ rfl ?_))
        refine WR.ret ⟨rfl, rfl, ⟨_, rfl, VLe.refl _⟩, fun b _ => rfl⟩
      have c3 : ¬ k = 3 := of_decide_eq_false c3
      repeat (first | refine WR.seq ?_ | refine WR.block ?_ | refine WR.scope ?_ | refine WR.skip ?_ | refine WR.exit ?_ | refine WR.condT rfl ?_ | refine WR.condF rfl ?_ | refine WR.reg (WQ.runS [] 1000 _ _ _ _ rfl ?_) | refine WQ.nilS ?_ | refine WR.dreg hmix (DW.runS [] 1000 _ _ _ _ _ _ rfl ?_))
      refine WR.cond rfl (fun c4 => ?_) (fun c4 => ?_)
      · have c4 : k = 4 := of_decide_eq_true c4
        repeat (first | refine WR.seq ?_ | refine WR.block ?_ | refine WR.scope ?_ | refine WR.skip ?_ | refine WR.exit ?_ | refine WR.condT rfl ?_ | refine WR.condF rfl ?_ | refine WR.reg (WQ.runS [] 1000 _ _ _ _ rfl ?_) | refine WQ.nilS ?_ | refine WR.dreg hmix (DW.runS [] 1000 _ _ _ _ _ _ rfl ?_))
        refine WR.cond rfl (fun c6 => ?_) (fun c6 => ?_)
        · have c6 : ¬ p = [] := by simpa using c6
          rw [hs ((p ++ [46]) ++ n) (fun _ => by simp [leafT, c4, c6]) (fun e => by omega)]
          refine WR.seq (WR.reg (WQ.runS [] 2 _ _ _ _ rfl ?_))
          refine WQ.lightS rfl rfl rfl (add_strW rfl rfl (by simp; unfold slim; unfold rch at hp; omega) _) rfl (WQ.runS [] 2 _ _ _ _ rfl ?_)
          refine WQ.lightS rfl rfl rfl (add_strW rfl rfl (by simp; unfold slim; unfold rch at hp hn; omega) _) rfl (WQ.runS [] 1000 _ _ _ _ rfl (WQ.nilS ?_))
          refine WR.ret ⟨rfl, rfl, ⟨_, rfl, VLe.refl _⟩, fun b _ => rfl⟩
        · have c6 : p = [] := by simpa using c6
          rw [hs n (fun _ => by simp [leafT, c4, c6]) (fun e => by omega)]
          repeat (first | refine WR.seq ?_ | refine WR.block ?_ | refine WR.scope ?_ | refine WR.skip ?_ | refine WR.exit ?_ | refine WR.condT rfl ?_ | refine WR.condF rfl ?_ | refine WR.reg (WQ.runS [] 1000 _ _ _ _ rfl ?_) | refine WQ.nilS ?_ | refine WR.dreg hmix (DW.runS [] 1000 _ _ _ _ _ _ rfl ?_))
          refine WR.ret ⟨rfl, rfl, ⟨_, rfl, VLe.refl _⟩, fun b _ => rfl⟩
      have c4 : ¬ k = 4 := of_decide_eq_false c4
      repeat (first | refine WR.seq ?_ | refine WR.block ?_ | refine WR.scope ?_ | refine WR.skip ?_ | refine WR.exit ?_ | refine WR.condT rfl ?_ | refine WR.condF rfl ?_ | refine WR.reg (WQ.runS [] 1000 _ _ _ _ rfl ?_) | refine WQ.nilS ?_ | refine WR.dreg hmix (DW.runS [] 1000 _ _ _ _ _ _ rfl ?_))
      refine WR.cond rfl (fun c5 => ?_) (fun c5 => ?_)
      · have c5 : k = 5 := of_decide_eq_true c5
        rw [hs ([91, 93] ++ showT y) (fun e => absurd c5 e) (fun _ => rfl)]
        have hdy : depT y ≤ N := by simp only [depT] at hd; omega
        have hly := showT_len y ok2.1
        have sc := ih y hdy (by omega) ok2.1
        obtain ⟨k2, a2, p2, n2, l2⟩ := y
        refine WR.seq (WR.seq (WR.reg (WQ.runS [] 1000 _ _ _ _ rfl (WQ.nilS ?_))))
        refine WR.cond rfl (fun c7 => ?_) (fun c7 => ?_)
        · have c7 := of_decide_eq_true c7
          simp [encTs] at c7
          omega
        refine WR.skip ?_
        refine WR.seq (WR.reg (WQ.runS [] 4 _ _ _ _ rfl ?_))
        refine WQ.callH rfl rfl rfl rfl rfl (sc _) .base rfl ?_
        refine WQ.lightS rfl rfl rfl (add_strW rfl rfl (by simp; unfold slim; unfold rch at hly; omega) _) rfl (WQ.runS [] 1000 _ _ _ _ rfl (WQ.nilS ?_))
        refine WR.ret ⟨rfl, rfl, ⟨_, rfl, VLe.refl _⟩, fun b _ => rfl⟩
      · have c5 : ¬ k = 5 := of_decide_eq_false c5
        rw [hs [63] (fun _ => by simp [leafT, c1, c2, c3, c4]) (fun e => absurd e c5)]
        repeat (first | refine WR.seq ?_ | refine WR.block ?_ | refine WR.scope ?_ | refine WR.skip ?_ | refine WR.exit ?_ | refine WR.condT rfl ?_ | refine WR.condF rfl ?_ | refine WR.reg (WQ.runS [] 1000 _ _ _ _ rfl ?_) | refine WQ.nilS ?_ | refine WR.dreg hmix (DW.runS [] 1000 _ _ _ _ _ _ rfl ?_))
        refine WR.ret ⟨rfl, rfl, ⟨_, rfl, VLe.refl _⟩, fun b _ => rfl⟩

/-! ### how deep -/
theorem depT_mk (k a : Int) (p n : List Nat) (l : List TX) : depT (.mk k a p n l) = match l with | [] => 0 | x :: _ => depT x + 1 := by
  cases l <;> simp only [depT]

def lTm (i : Nat) : TM := [(1, .l 1 0), (3, .v (.int .i64 i))]

theorem lists_loop {QN : S → Prop} {QX : X → S → Prop} : ∀ (m i : Nat) (x : TX), i + m = 300 → (∀ tm y, tg tm 3 = some (.v (.int .i64 (min 300 (i + depT x) : Nat))) → QX (.exit 0) (SL.toS ⟨tm, [], none, 1000, [], [(1, encT y)]⟩)) →
    WLr Go.Proofs.Tryz.prog [] ⟨Go.Proofs.Tryz.f7.ntmps, none, 7⟩ rc7_L1 (SL.toS ⟨lTm i, [], none, 1000, [], [(1, encT x)]⟩) QN QX := by
  intro m
  induction m with
  | zero =>
    intro i x hi hx
    obtain ⟨k, a, p, n, l⟩ := x
    unfold rc7_L1
    refine WLr.of ?_
    refine WR.seq (WR.seq (WR.reg (WQ.runS [] 5 _ _ _ _ rfl ?_)))
    refine WQ.guard 8 rfl (fun hb => ?_) (fun hb => ?_) <;> rw [hb]
    · refine WQ.runS [] 1000 _ _ _ _ rfl (WQ.nilS ?_)
      refine WR.cond rfl (fun h2 => ?_) (fun h2 => ?_)
      · have h2 := of_decide_eq_true h2
        omega
      · repeat (first | refine WR.seq ?_ | refine WR.block ?_ | refine WR.scope ?_ | refine WR.skip ?_ | refine WR.exit ?_ | refine WR.condT rfl ?_ | refine WR.condF rfl ?_ | refine WR.reg (WQ.runS [] 1000 _ _ _ _ rfl ?_) | refine WQ.nilS ?_ | refine WR.dreg hmix (DW.runS [] 1000 _ _ _ _ _ _ rfl ?_))
        refine hx _ (.mk k a p n l) ?_
        have : min 300 (i + depT (.mk k a p n l)) = i := by omega
        rw [this]; rfl
    · refine WQ.runS [] 1000 _ _ _ _ rfl (WQ.nilS ?_)
      repeat (first | refine WR.seq ?_ | refine WR.block ?_ | refine WR.scope ?_ | refine WR.skip ?_ | refine WR.exit ?_ | refine WR.condT rfl ?_ | refine WR.condF rfl ?_ | refine WR.reg (WQ.runS [] 1000 _ _ _ _ rfl ?_) | refine WQ.nilS ?_ | refine WR.dreg hmix (DW.runS [] 1000 _ _ _ _ _ _ rfl ?_))
      refine hx _ (.mk k a p n l) ?_
      have : min 300 (i + depT (.mk k a p n l)) = i := by omega
      rw [this]; rfl
  | succ m ih =>
    intro i x hi hx
    obtain ⟨k, a, p, n, l⟩ := x
    unfold rc7_L1
    refine WLr.of ?_
    refine WR.seq (WR.seq (WR.reg (WQ.runS [] 5 _ _ _ _ rfl ?_)))
    cases l with
    | nil =>
      refine WQ.runS [] 1000 _ _ _ _ rfl (WQ.nilS ?_)
      repeat (first | refine WR.seq ?_ | refine WR.block ?_ | refine WR.scope ?_ | refine WR.skip ?_ | refine WR.exit ?_ | refine WR.condT rfl ?_ | refine WR.condF rfl ?_ | refine WR.reg (WQ.runS [] 1000 _ _ _ _ rfl ?_) | refine WQ.nilS ?_ | refine WR.dreg hmix (DW.runS [] 1000 _ _ _ _ _ _ rfl ?_))
      refine hx _ (.mk k a p n []) ?_
      have : min 300 (i + depT (.mk k a p n [])) = i := by simp only [depT]; omega
      rw [this]; rfl
    | cons y r =>
      rw [show decide (((encTs (y :: r)).length : Int) > 0) = true from decide_eq_true (by rw [encTs_len]; simp; try omega)]
      refine WQ.runS [] 2 _ _ _ _ rfl ?_
      rw [show decide ((i : Int) < 300) = true from decide_eq_true (by omega)]
      refine WQ.runS [] 1000 _ _ _ _ rfl (WQ.nilS ?_)
      obtain ⟨k2, a2, p2, n2, l2⟩ := y
      repeat (first | refine WR.seq ?_ | refine WR.block ?_ | refine WR.scope ?_ | refine WR.skip ?_ | refine WR.exit ?_ | refine WR.condT rfl ?_ | refine WR.condF rfl ?_ | refine WR.reg (WQ.runS [] 1000 _ _ _ _ rfl ?_) | refine WQ.nilS ?_ | refine WR.dreg hmix (DW.runS [] 1000 _ _ _ _ _ _ rfl ?_))
      rw [show IntKind.i64.wrap ((i : Int) + 1) = ((i + 1 : Nat) : Int) by rw [wrap64 (by omega) (by omega)]; rfl]
      refine WIr.again (WLr.weak (s := SL.toS ⟨lTm (i + 1), [], none, 1000, [], [(1, encT (.mk k2 a2 p2 n2 l2))]⟩) ?_ ?_)
      · refine SW.tellR ?_ ?_
        · repeat (first | exact .nil | refine .cons rfl (.v (VLe.refl _)) ?_ | refine .cons rfl (.l _ _ rfl) ?_ | refine .cons rfl (.v (VLe.unk _ _)) ?_)
        · repeat (first | exact .nil | refine .cons rfl (.inl rfl) ?_)
      refine ih (i + 1) _ (by omega) (fun tm z h3 => hx tm z ?_)
      have : min 300 (i + 1 + depT (.mk k2 a2 p2 n2 l2)) = min 300 (i + depT (.mk k a p n (.mk k2 a2 p2 n2 l2 :: r))) := by
        have : depT (.mk k a p n (.mk k2 a2 p2 n2 l2 :: r)) = depT (.mk k2 a2 p2 n2 l2) + 1 := by rw [depT_mk]
        omega
      rw [← this]; exact h3

theorem lists_spec (x : TX) (h : H) : SCall Go.Proofs.Tryz.prog [] 7 [.agg (encT x)] none h (.ret (.int .i64 (min 300 (depT x) : Nat))) none h := by
  refine SCall.pure0 rfl ?_ (by exact ⟨encT_in _, trivial⟩) (by exact trivial) h
  obtain ⟨k, a, p, n, l⟩ := x
  refine SCall.listed (fn := Go.Proofs.Tryz.f7) (by kernel_rfl) res7 (by kernel_rfl) (by kernel_rfl) (Nat.le_refl _) rfl trivial trivial ?_
  unfold rc7
  repeat (first | refine WR.seq ?_ | refine WR.block ?_ | refine WR.scope ?_ | refine WR.skip ?_ | refine WR.exit ?_ | refine WR.condT rfl ?_ | refine WR.condF rfl ?_ | refine WR.reg (WQ.runS [] 1000 _ _ _ _ rfl ?_) | refine WQ.nilS ?_ | refine WR.dreg hmix (DW.runS [] 1000 _ _ _ _ _ _ rfl ?_))
  refine WR.loop (WLr.weak (s := SL.toS ⟨lTm 0, [], none, 1000, [], [(1, encT (.mk k a p n l))]⟩) ?_ (lists_loop 300 0 (.mk k a p n l) (by omega) (fun tm y h3 => ?_)))
  · refine SW.tellR ?_ ?_
    · repeat (first | exact .nil | refine .cons rfl (.v (VLe.refl _)) ?_ | refine .cons rfl (.l _ _ rfl) ?_ | refine .cons rfl (.v (VLe.unk _ _)) ?_)
    · repeat (first | exact .nil | refine .cons rfl (.inl rfl) ?_)
  show WR Go.Proofs.Tryz.prog [] _ _ _ _ _
  unfold rc7_J1
  rw [Nat.zero_add] at h3
  refine WR.seq (WR.reg (WQ.lightS rfl rfl rfl (lightX_sound (ro := .mv (.t 3)) (v := .v _) h3) rfl (WQ.runS [] 1000 _ _ _ _ rfl (WQ.nilS ?_))))
  refine WR.ret ⟨rfl, rfl, ⟨_, rfl, VLe.refl _⟩, fun b _ => rfl⟩

/-! ### the law -/
theorem ret3 {tm : TM} {ol : OL} {nx : Nat} {lc : LM} {ol' : OL} (h : tg tm 2 = some (.v (.bool true))) (hol : ∀ b, b < 1000 → og ol' b = og ol b) : retX (RetS Go.Proofs.Tryz.prog Go.Proofs.Tryz.f3 (.bool true) 1000 ol') .ret (SL.toS ⟨tm, [], none, nx, ol, lc⟩) := by
  refine ⟨rfl, rfl, ⟨[.bool true], ?_, VLe.refl _⟩, fun b hb => hol b hb⟩
  show resV Go.Proofs.Tryz.prog _ _ [.tmp 2] = _
  simp only [resV, SL.toS, h]

theorem showTypes_spec (x : TX) (ok : okT x) {k : IntKind} {zs : List Int} (haw : ∀ (nx : Nat) (lc : LM), SCall Go.Proofs.Tryz.prog [0] 6 [] none ⟨nx, og [(0, .cells false (tabO k zs))], lc⟩ (.ret (.bool true)) none ⟨nx, og [(0, .cells false (tabO k zs))], lc⟩) :
    SCall Go.Proofs.Tryz.prog [0] 3 [.agg (encT x)] none (hT 0 k zs) (.ret (.bool true)) none (hT 0 k zs) := by
  refine SCall.listed (fn := Go.Proofs.Tryz.f3) (by kernel_rfl) res3 (by kernel_rfl) (by kernel_rfl) (Nat.le_refl _) rfl (by exact ⟨tabO_in, trivial⟩) trivial ?_
  have hls := lists_spec x
  have hty := type_spec (depT x) x (Nat.le_refl _)
  have hty2 := typeR_spec (depT x) x (Nat.le_refl _)
  have henc : ∃ k a p n l, x = .mk k a p n l := by cases x; exact ⟨_, _, _, _, _, rfl⟩
  generalize showT x = sx at hty hty2
  generalize depT x = d at hls hty hty2
  obtain ⟨k0, a0, p0, n0, l0, rfl⟩ := henc
  unfold rc3
  refine WR.seq (WR.reg (WQ.runS [] 1000 _ _ _ _ rfl (WQ.nilS ?_)))
  refine WR.seq (WR.reg (WQ.callH rfl rfl rfl rfl rfl (haw _ _) .base rfl (WQ.runS [] 1000 _ _ _ _ rfl (WQ.nilS ?_))))
  refine WR.seq (WR.seq (WR.reg (WQ.runS [] 1 _ _ _ _ rfl ?_)))
  refine WQ.callH rfl rfl rfl rfl rfl (hls _).more .base rfl (WQ.runS [] 1000 _ _ _ _ rfl (WQ.nilS ?_))
  refine WR.cond rfl (fun c => ?_) (fun c => ?_)
  · repeat (first | refine WR.seq ?_ | refine WR.block ?_ | refine WR.scope ?_ | refine WR.skip ?_ | refine WR.exit ?_ | refine WR.condT rfl ?_ | refine WR.condF rfl ?_ | refine WR.reg (WQ.runS [] 1000 _ _ _ _ rfl ?_) | refine WQ.nilS ?_ | refine WR.dreg hmix (DW.runS [] 1000 _ _ _ _ _ _ rfl ?_))
    exact WR.ret (ret3 rfl fun _ _ => rfl)
  have c : ¬ ((min 300 d : Nat) : Int) ≥ 300 := of_decide_eq_false c
  have hd : d ≤ 300 := by omega
  refine WR.skip ?_
  refine WR.seq (WR.dreg hmix (DW.runS [] 1000 _ _ _ _ _ _ rfl ?_))
  refine DW.callH (by repeat (first | exact .nil | refine PendR.passM rfl ?_ | refine PendR.sameM rfl ?_ | refine PendR.lightM rfl ?_)) rfl rfl rfl rfl rfl (hty hd ok _).more .base rfl (DW.runS [] 1000 _ _ _ _ _ _ rfl ?_)
  refine DW.callH (by repeat (first | exact .nil | refine PendR.passM rfl ?_ | refine PendR.sameM rfl ?_ | refine PendR.lightM rfl ?_)) rfl rfl rfl rfl rfl (hty2 hd ok _).more .base rfl (DW.runS [] 1 _ _ _ _ _ _ rfl ?_)
  rw [show decide (sx = sx) = true from decide_eq_true rfl]
  refine DW.runS [] 1000 _ _ _ _ _ _ rfl (DW.finS (by repeat (first | exact .nil | refine PendR.passM rfl ?_ | refine PendR.sameM rfl ?_ | refine PendR.lightM rfl ?_)) ?_)
  exact WR.ret (ret3 rfl fun _ _ => rfl)
end Go.VM
