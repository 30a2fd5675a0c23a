/- laid for this seat: VzI VzQ VzR VzS -/
import Derived.Test.YtipiffhjilidlaaDoorVg9
import Derived.Test.YtipiffhjilidlaaDoorVg7
section
/- Statements: the calls at the head of the laws. -/
set_option maxRecDepth 100000
set_option linter.unusedVariables false
set_option linter.unusedSimpArgs false
namespace Go.VM
open Go.RowKit
def knownB (l : List Tz) (F : Nat) : Bool := (List.range (l.length + 1)).all fun a => !((fns l F).expr 1 a 0).isOut
theorem known_of {l : List Tz} {F : Nat} (h : knownB l F = true) : ∀ a, a ≤ l.length → ((fns l F).expr 1 a 0).isOut = false := by
 intro a ha
 have := List.all_eq_true.1 h a (List.mem_range.2 (by omega))
 simpa using this
def w1 : List Nat := [123, 108, 101, 116, 32, 120, 61, 49, 59, 105, 102, 32, 120, 60, 50, 123, 125, 101, 108, 115, 101, 123, 114, 101, 116, 117, 114, 110, 59, 125, 125]
def w2 : List Nat := [123, 120, 61, 59, 125]
def Y1 : List Tz := (lexR w1).1.map toZ
def Y2 : List Tz := (lexR w2).1.map toZ
def B1 : List Sx := [.mk 1 1 [120] false (.mk 1 7 8 [] 1 zT []) [] [], .mk 4 9 [] true (.mk 9 12 15 [60] 0 zT [.mk 4 12 13 [120] 0 zT [], .mk 1 14 15 [] 2 zT []]) [] [.mk 3 22 [] false zX [] []]]
theorem allw1 : (lexR w1).2 = (0, 0) := by kernel_rfl
theorem allw2 : (lexR w2).2 = (0, 0) := by kernel_rfl
theorem kn1 : knownB Y1 60 = true := by kernel_rfl
theorem kn2 : knownB Y2 60 = true := by kernel_rfl
theorem bl1 : (sfns Y1 (fun a => (fns Y1 60).expr 1 a 0) 40).block 0 ⟨0, 0, 0⟩ = some (B1, ⟨18, 0, 0⟩) := by kernel_rfl
theorem bl2 : (sfns Y2 (fun a => (fns Y2 60).expr 1 a 0) 40).block 0 ⟨0, 0, 0⟩ = some ([.mk 2 1 [120] false zX [] []], ⟨3, 3, 5⟩) := by kernel_rfl
theorem len1 : Y1.length < 19999 := by decide
theorem len2 : Y2.length < 19999 := by decide
theorem all_ok {s : List Nat} (h8 : ∀ c ∈ s, c < 256) (hl : s.length < big) (h : (lexR s).2 = (0, 0)) : SCall Go.Proofs.Tryd.prog [0] 12 [.str s] none ⟨1000, og tOl, []⟩ (.ret (.tup [lsV ((lexR s).1.map toZ), .agg (dg 0 0)])) none ⟨1000, og tOl, []⟩ := by
 have a := all_at s h8 hl
 unfold allV at a
 rw [h] at a
 have e : V.lst (List.map encTk (lexR s).1) .unk = lsV ((lexR s).1.map toZ) := by unfold lsV; rw [encTks_Z]
 rw [← e]
 exact a
theorem awakeS_sp : SCall Go.Proofs.Tryd.prog [0] 16 [] none ⟨1000, og tOl, []⟩ (.ret (.bool true)) none ⟨1000, og tOl, []⟩ := by
 have a1 := all_ok (s := w1) (by decide) (by decide) allw1
 have a2 := all_ok (s := w2) (by decide) (by decide) allw2
 have p1 := sparse_sp (parse_ok Y1 len1 (by decide) 60 (known_of kn1)) (by have := len1; omega) 40 0 (Nat.zero_le _) bl1
 have p2 := sparse_sp (parse_ok Y2 len2 (by decide) 60 (known_of kn2)) (by have := len2; omega) 40 0 (Nat.zero_le _) bl2
 rw [show (lexR w1).1.map toZ = Y1 from rfl] at a1
 rw [show (lexR w2).1.map toZ = Y2 from rfl] at a2
 rw [show stV (B1, ⟨18, 0, 0⟩) = .tup [.lst (encSxs B1) .unk, .int .i64 18, .agg (dgX 0 0)] from rfl] at p1
 rw [show stV ([.mk 2 1 [120] false zX [] []], ⟨3, 3, 5⟩) = .tup [.lst [] (.ex 0), .int .i64 0, .agg (dgX 3 5)] from rfl] at p2
 generalize Y1 = Z1 at a1 p1
 generalize Y2 = Z2 at a2 p2
 refine SCall.listed (fn := Go.Proofs.Tryd.f16) (by kernel_rfl) res16 (by kernel_rfl) (by kernel_rfl) (Nat.le_refl _) rfl ((by exact ⟨tabS_in, trivial⟩)) trivial ?_
 unfold rc16
 repeat (refine WR.seq ?_)
 refine WR.reg (WQ.runS [] 1000 _ _ _ _ rfl (WQ.nilS ?_))
 repeat (refine WR.seq ?_)
 refine WR.reg (WQ.callH rfl rfl rfl rfl rfl a1 .base rfl ?_)
 refine WQ.runS [] 1000 _ _ _ _ rfl (WQ.nilS ?_)
 repeat (refine WR.seq ?_)
 refine WR.reg (WQ.runS [] 1 _ _ _ _ rfl ?_)
 refine WQ.callH rfl rfl rfl rfl rfl (p1 _) .base rfl ?_
 refine WQ.runS [] 1000 _ _ _ _ rfl (WQ.nilS ?_)
 repeat (refine WR.seq ?_)
 refine WR.reg (WQ.callH rfl rfl rfl rfl rfl (SCall.relc a2 _) .base rfl ?_)
 refine WQ.runS [] 1000 _ _ _ _ rfl (WQ.nilS ?_)
 repeat (refine WR.seq ?_)
 refine WR.reg (WQ.runS [] 1 _ _ _ _ rfl ?_)
 refine WQ.callH rfl rfl rfl rfl rfl (p2 _) .base rfl ?_
 refine WQ.runS [] 1000 _ _ _ _ rfl (WQ.nilS ?_)
 repeat (refine WR.seq ?_)
 refine WR.reg (WQ.runS [] 1000 _ _ _ _ rfl (WQ.nilS ?_))
 repeat (refine WR.seq ?_)
 refine WR.condF rfl (WR.skip ?_)
 repeat (refine WR.seq ?_)
 refine WR.reg (WQ.runS [] 1000 _ _ _ _ rfl (WQ.nilS ?_))
 exact WR.ret ⟨rfl, rfl, ⟨_, rfl, VLe.refl _⟩, fun _ _ => rfl⟩
end Go.VM
end
section
/- Statements: blocks that are deep: the text's tokens. -/
set_option maxRecDepth 100000
set_option linter.unusedVariables false
set_option linter.unusedSimpArgs false
namespace Go.VM
open Go.RowKit
def dOp (b : Bool) : List Nat := match b with | true => [123, 102, 111, 114, 32, 97] | false => [123, 105, 102, 32, 97, 123, 125, 101, 108, 115, 101]
def deepU (b : Bool) : Nat → List Nat
 | 0 => [123, 125]
 | n + 1 => (dOp b ++ deepU b n) ++ [125]
def kt (t : Tk) : Nat × List Nat := (t.kind, t.text)
def pOp (b : Bool) : List (Nat × List Nat) := match b with
 | true => [(4, [123]), (5, [102, 111, 114]), (1, [97])]
 | false => [(4, [123]), (5, [105, 102]), (1, [97]), (4, [123]), (4, [125]), (5, [101, 108, 115, 101])]
def patU (b : Bool) : Nat → List (Nat × List Nat)
 | 0 => [(4, [123]), (4, [125])]
 | n + 1 => pOp b ++ (patU b n ++ [(4, [125])])
def Cr (r : List Nat) : Prop := r = [] ∨ ∃ c q, r = c :: q ∧ (c = 125 ∨ c = 123)
section
variable {s : List Nat}
theorem get_drop {i c : Nat} {r : List Nat} (h : s.drop i = c :: r) : s[i]? = some c := by
 have := congrArg (·[0]?) h
 simpa using this
theorem drop_next {i c : Nat} {r : List Nat} (h : s.drop i = c :: r) : s.drop (i + 1) = r := by
 have : s.drop (i + 1) = (s.drop i).drop 1 := by rw [List.drop_drop]
 rw [this, h]; rfl
theorem skip_at {i : Nat} {r : List Nat} (h : s.drop i = r) (h0 : cntF blankB r = 0) (h1 : pfxB r [47, 47] = false) : skipF s (s.length + 1) i = i := by
 rw [skipF, h, h0, Nat.add_zero, h, h1]
 rfl
theorem skip_cr {i : Nat} {r : List Nat} (h : s.drop i = r) (hr : Cr r) : skipF s (s.length + 1) i = i := by
 refine skip_at h ?_ ?_
 ·rcases hr with rfl | ⟨c, q, rfl, rfl | rfl⟩
  ·rfl
  ·rw [cntF, show blankB 125 = false from by decide]
  ·rw [cntF, show blankB 123 = false from by decide]
 ·rcases hr with rfl | ⟨c, q, rfl, rfl | rfl⟩
  ·rfl
  ·simp [pfxB]
  ·simp [pfxB]
theorem skip_sp {i c : Nat} {r : List Nat} (h : s.drop i = 32 :: c :: r) (h0 : blankB c = false) (h1 : c ≠ 47) : skipF s (s.length + 1) i = i + 1 := by
 have e : s.drop (i + 1) = c :: r := drop_next h
 rw [skipF, h]
 rw [show cntF blankB (32 :: c :: r) = 1 from by rw [cntF, show blankB 32 = true from by decide]; simp only; rw [cntF, h0]]
 rw [e, show pfxB (c :: r) [47, 47] = false from by simp [pfxB, h1]]
 rfl
theorem skip_ch {i c : Nat} {r : List Nat} (h : s.drop i = c :: r) (h0 : blankB c = false) (h1 : c ≠ 47) : skipF s (s.length + 1) i = i := by
 refine skip_at h ?_ ?_
 ·rw [cntF, h0]
 ·simp [pfxB, h1]
theorem lex1 {i c : Nat} {r : List Nat} {t : Tk} {j : Nat} (h : s.drop i = c :: r) (ht : tokF s i c = (t, 0)) (hj : skipF s (s.length + 1) t.e = j) (m : Nat) (l : List Tk) (hl : l.length < 4000) :
  lexL s (m + 1) i l = lexL s m j (l ++ [{ t with text := (c :: r).take (t.e - i) }]) := by
 rw [lexL, get_drop h]
 simp only [tokW, ht, if_neg (show ¬ l.length ≥ 4000 by omega)]
 rw [hj, h]
theorem tok_sym {i c : Nat} {r : List Nat} (h : s.drop i = c :: r) (hc : c = 123 ∨ c = 125) : tokF s i c = (⟨4, i, i + 1, []⟩, 0) := by
 have hp : ∀ y : Nat, y ≠ c → pfxB (s.drop i) [y, y] = false := by
  intro y hy
  rw [h]
  simp [pfxB]
  omega
 rcases hc with rfl | rfl
 ·rw [tokF_one (by decide) (by decide) (by decide) (by rw [hp 61 (by decide), hp 38 (by decide)]; rfl)]
  rw [show decide (ibV 123 symL < 0) = false from by decide]
 ·rw [tokF_one (by decide) (by decide) (by decide) (by rw [hp 61 (by decide), hp 38 (by decide)]; rfl)]
  rw [show decide (ibV 125 symL < 0) = false from by decide]
theorem tok_word {i c : Nat} {r : List Nat} {n : Nat} {k : Nat} (h : s.drop i = c :: r) (hc : letterB c = true) (hn : cntF partB (c :: r) = n) (h40 : n ≤ 40) (hw : wordB ((c :: r).take n) = (k == 5)) (hk : k = 5 ∨ k = 1) : tokF s i c = (⟨k, i, i + n, []⟩, 0) := by
 rw [tokF_letter hc, h, hn, hw]
 rw [decide_eq_false (show ¬ n > 40 by omega)]
 rcases hk with rfl | rfl <;> rfl
end
def Lxd (s : List Nat) (i len cnt : Nat) (p : List (Nat × List Nat)) : Prop := ∃ T1 : List Tk, T1.map kt = p ∧ ∀ m (l : List Tk), l.length + cnt ≤ 4000 → lexL s (m + cnt) i l = lexL s m (i + len) (l ++ T1)
theorem Lxd.seq {s : List Nat} {i n1 c1 n2 c2 : Nat} {p q : List (Nat × List Nat)} (h : Lxd s i n1 c1 p) (hc : p.length = c1) (k : Lxd s (i + n1) n2 c2 q) : Lxd s i (n1 + n2) (c1 + c2) (p ++ q) := by
 obtain ⟨T1, e1, f1⟩ := h
 obtain ⟨T2, e2, f2⟩ := k
 have hT : T1.length = c1 := by rw [← hc, ← e1, List.length_map]
 refine ⟨T1 ++ T2, by rw [List.map_append, e1, e2], fun m l hl => ?_⟩
 rw [show m + (c1 + c2) = m + c2 + c1 by omega, f1 (m + c2) l (by omega), f2 m (l ++ T1) (by rw [List.length_append]; omega), List.append_assoc, Nat.add_assoc]
theorem Lxd.sym {s : List Nat} {i c : Nat} {r : List Nat} (h : s.drop i = c :: r) (hc : c = 123 ∨ c = 125) (hr : skipF s (s.length + 1) (i + 1) = i + 1) : Lxd s i 1 1 [(4, [c])] := by
 refine ⟨[⟨4, i, i + 1, [c]⟩], rfl, fun m l hl => ?_⟩
 rw [lex1 h (tok_sym h hc) (j := i + 1) hr m l (by omega)]
 simp only [Nat.add_sub_cancel_left]
 rfl
theorem Lxd.word {s : List Nat} {i c : Nat} {r : List Nat} {n len k : Nat} (h : s.drop i = c :: r) (hc : letterB c = true) (hn : cntF partB (c :: r) = n) (h40 : n ≤ 40) (hw : wordB ((c :: r).take n) = (k == 5)) (hk : k = 5 ∨ k = 1) (hr : skipF s (s.length + 1) (i + n) = i + len) : Lxd s i len 1 [(k, (c :: r).take n)] := by
 refine ⟨[⟨k, i, i + n, (c :: r).take n⟩], rfl, fun m l hl => ?_⟩
 rw [lex1 h (tok_word h hc hn h40 hw hk) (j := i + len) hr m l (by omega)]
 simp only [Nat.add_sub_cancel_left]
def lenU (b : Bool) (n : Nat) : Nat := (deepU b n).length
def cntU (b : Bool) (n : Nat) : Nat := (patU b n).length
theorem deepU_head (b : Bool) : ∀ n, ∃ q, deepU b n = 123 :: q
 | 0 => ⟨_, rfl⟩
 | n + 1 => by
  cases b
  ·exact ⟨_, rfl⟩
  ·exact ⟨_, rfl⟩
theorem lx_op_t {s : List Nat} {i : Nat} {r : List Nat} (h : s.drop i = dOp true ++ 123 :: r) : Lxd s i 6 3 (pOp true) := by
 have h : s.drop i = 123 :: 102 :: 111 :: 114 :: 32 :: 97 :: 123 :: r := h
 have h1 := drop_next h
 have h2 := drop_next h1
 have h3 := drop_next h2
 have h4 := drop_next h3
 have h5 := drop_next h4
 have h6 := drop_next h5
 have a := Lxd.sym h (.inl rfl) (skip_ch h1 (by decide) (by decide))
 have b := Lxd.word (n := 3) (len := 4) (k := 5) h1 (by decide) rfl (by decide) (by rfl) (.inl rfl) (skip_sp h4 (by decide) (by decide))
 have c := Lxd.word (n := 1) (len := 1) (k := 1) h5 (by decide) rfl (by decide) (by rfl) (.inr rfl) (skip_ch h6 (by decide) (by decide))
 exact a.seq rfl (b.seq rfl c)
theorem lx_op_f {s : List Nat} {i : Nat} {r : List Nat} (h : s.drop i = dOp false ++ 123 :: r) : Lxd s i 11 6 (pOp false) := by
 have h : s.drop i = 123 :: 105 :: 102 :: 32 :: 97 :: 123 :: 125 :: 101 :: 108 :: 115 :: 101 :: 123 :: r := h
 have h1 := drop_next h
 have h2 := drop_next h1
 have h3 := drop_next h2
 have h4 := drop_next h3
 have h5 := drop_next h4
 have h6 := drop_next h5
 have h7 := drop_next h6
 have h8 := drop_next h7
 have h9 := drop_next h8
 have h10 := drop_next h9
 have h11 := drop_next h10
 have a := Lxd.sym h (.inl rfl) (skip_ch h1 (by decide) (by decide))
 have b := Lxd.word (n := 2) (len := 3) (k := 5) h1 (by decide) rfl (by decide) (by rfl) (.inl rfl) (skip_sp h3 (by decide) (by decide))
 have c := Lxd.word (n := 1) (len := 1) (k := 1) h4 (by decide) rfl (by decide) (by rfl) (.inr rfl) (skip_ch h5 (by decide) (by decide))
 have d := Lxd.sym h5 (.inl rfl) (skip_ch h6 (by decide) (by decide))
 have e := Lxd.sym h6 (.inr rfl) (skip_ch h7 (by decide) (by decide))
 have f := Lxd.word (n := 4) (len := 4) (k := 5) h7 (by decide) rfl (by decide) (by rfl) (.inl rfl) (skip_ch h11 (by decide) (by decide))
 exact a.seq rfl (b.seq rfl (c.seq rfl (d.seq rfl (e.seq rfl f))))
theorem drop_app {s u v : List Nat} {i : Nat} (h : s.drop i = u ++ v) : s.drop (i + u.length) = v := by
 have : s.drop (i + u.length) = (s.drop i).drop u.length := by rw [List.drop_drop]
 rw [this, h, List.drop_left]
theorem lx_deep (b : Bool) (s : List Nat) : ∀ (n i : Nat) (r : List Nat), s.drop i = deepU b n ++ r → Cr r → Lxd s i (lenU b n) (cntU b n) (patU b n)
 | 0, i, r, h, hr => by
  have h : s.drop i = 123 :: 125 :: r := h
  have h1 := drop_next h
  have h2 := drop_next h1
  exact (Lxd.sym h (.inl rfl) (skip_ch h1 (by decide) (by decide))).seq rfl (Lxd.sym h1 (.inr rfl) (skip_cr h2 hr))
 | n + 1, i, r, h, hr => by
  have e : s.drop i = dOp b ++ (deepU b n ++ 125 :: r) := by rw [h]; simp [deepU]
  have h1 := drop_app e
  have ih := lx_deep b s n _ _ h1 (.inr ⟨125, r, rfl, .inl rfl⟩)
  have h2 := drop_app h1
  have last := Lxd.sym h2 (.inr rfl) (skip_cr (drop_next h2) hr)
  have tl := ih.seq rfl last
  obtain ⟨q, hq⟩ := deepU_head b n
  have e1 : s.drop i = dOp b ++ 123 :: (q ++ 125 :: r) := by rw [e, hq]; rfl
  have hd : Lxd s i (dOp b).length (pOp b).length (pOp b) := by
   cases b
   ·exact lx_op_f e1
   ·exact lx_op_t e1
  have all := hd.seq rfl tl
  have l1 : lenU b (n + 1) = (dOp b).length + (lenU b n + 1) := by simp [lenU, deepU]
  have l2 : cntU b (n + 1) = (pOp b).length + (cntU b n + 1) := by simp [cntU, patU]
  rw [l1, l2]
  exact all
theorem cntU_le (b : Bool) : ∀ n, cntU b n ≤ 2 + 7 * n
 | 0 => Nat.le_refl _
 | n + 1 => by
  have := cntU_le b n
  unfold cntU at this ⊢
  rw [patU]
  cases b <;> simp [pOp] <;> omega
theorem cnt_len (b : Bool) : ∀ n, cntU b n ≤ lenU b n
 | 0 => Nat.le_refl _
 | n + 1 => by
  have := cnt_len b n
  unfold cntU lenU at this ⊢
  rw [patU, deepU]
  cases b <;> simp [pOp, dOp] <;> omega
theorem deepU_lex (b : Bool) (n : Nat) (hn : n < 70) : ∃ T, lexR (deepU b n) = (T, 0, 0) ∧ T.map kt = patU b n ++ [(0, [])] := by
 have hl := cnt_len b n
 have hc := cntU_le b n
 obtain ⟨T1, e1, f1⟩ := lx_deep b (deepU b n) n 0 [] (by simp) (.inl rfl)
 obtain ⟨m, hm⟩ : ∃ m, (deepU b n).length + 1 = (m + 1) + cntU b n := ⟨(deepU b n).length - cntU b n, by unfold lenU at hl; omega⟩
 have f := f1 (m + 1) [] (by simp; omega)
 obtain ⟨q, hq⟩ := deepU_head b n
 have sk : skipF (deepU b n) ((deepU b n).length + 1) 0 = 0 := skip_ch (c := 123) (r := q) (by rw [List.drop_zero, hq]) (by decide) (by decide)
 refine ⟨T1 ++ [endTk (deepU b n)], ?_, by rw [List.map_append, e1]; rfl⟩
 unfold lexR
 rw [sk, hm, f, Nat.zero_add, lexL, show (deepU b n)[lenU b n]? = none from List.getElem?_eq_none (Nat.le_refl _)]
 rfl
end Go.VM
end
section
/- Statements: blocks that are deep: what is read. -/
set_option maxRecDepth 100000
set_option linter.unusedVariables false
set_option linter.unusedSimpArgs false
namespace Go.VM
open Go.RowKit
def kz (t : Tz) : Int × List Nat := (t.k, t.t)
def pz (p : Nat × List Nat) : Int × List Nat := ((p.1 : Int), p.2)
def At (Z : List Tz) (p : Nat) (q : List (Int × List Nat)) : Prop := (Z.drop p).map kz = q
section
variable {Z : List Tz}
theorem At.head {p : Nat} {k : Int} {x : List Nat} {q : List (Int × List Nat)} (h : At Z p ((k, x) :: q)) : (nowF Z p).k = k ∧ (nowF Z p).t = x ∧ At Z (p + 1) q ∧ p < Z.length := by
 unfold At at h
 cases hd : Z.drop p with
 | nil => rw [hd] at h; cases h
 | cons t r =>
  rw [hd, List.map_cons] at h
  injection h with h1 h2
  have hg : Z[p]? = some t := by
   have := congrArg (·[0]?) hd
   simpa using this
  have hp := (List.getElem?_eq_some_iff.1 hg).1
  rw [nowF_some hg]
  unfold kz at h1
  injection h1 with h3 h4
  refine ⟨h3, h4, ?_, hp⟩
  show (Z.drop (p + 1)).map kz = q
  have : Z.drop (p + 1) = r := by
   have : Z.drop (p + 1) = (Z.drop p).drop 1 := by rw [List.drop_drop]
   rw [this, hd]; rfl
  rw [this]; exact h2
theorem At.is {p : Nat} {k : Int} {x : List Nat} {q : List (Int × List Nat)} (h : At Z p ((k, x) :: q)) (k' : Int) (y : List Nat) : isF Z p k' y = (decide (k = k') && decide (x = y)) := by
 unfold isF
 rw [h.head.1, h.head.2.1]
theorem At.app {p : Nat} : ∀ {u v : List (Int × List Nat)}, At Z p (u ++ v) → At Z (p + u.length) v
 | [], v, h => h
 | (k, x) :: u, v, h => by
  have := At.app (u := u) h.head.2.2.1
  rw [List.length_cons, show p + (u.length + 1) = p + 1 + u.length by omega]
  exact this
theorem name_expr {a : Nat} {x : List Nat} {q : List (Int × List Nat)} (h : At Z a ((1, x) :: (4, [123]) :: q)) (M : Nat) (hM : 8 ≤ M) : ∃ y, (fns Z M).expr 1 a 0 = .ok y (a + 1) := by
 obtain ⟨M, rfl⟩ : ∃ m, M = m + 8 := ⟨M - 8, by omega⟩
 obtain ⟨k1, t1, h2, hp⟩ := h.head
 obtain ⟨k2, t2, _, hp2⟩ := h2.head
 obtain ⟨X, hX⟩ : ∃ X, X = Ex.mk 4 (nowF Z a).a (nowF Z a).e (nowF Z a).t 0 zT [] := ⟨_, rfl⟩
 refine ⟨X, ?_⟩
 have hpr : ∀ N, (fns Z (N + 1)).prim a 0 = .ok X (a + 1) := by
  intro N
  rw [hX]
  show nPrim Z (fns Z N) a 0 = _
  unfold nPrim
  rw [h.is, h.is, k1]
  rfl
 have hop : ∀ N, (fns Z (N + 1)).oper a 0 = ((fns Z N).prim a 0).bind fun x a1 => (fns Z N).post x a1 0 := by
  intro N
  show nOper Z (fns Z N) a 0 = _
  unfold nOper
  rw [h.is]
  rfl
 have hpo : ∀ N x, (fns Z (N + 1)).post x (a + 1) 0 = .ok x (a + 1) := by
  intro N x
  show nPost Z (fns Z N) x (a + 1) 0 = _
  unfold nPost
  rw [h2.is, h2.is, h2.is]
  rfl
 have hbi : ∀ N lv x, 1 ≤ lv → (fns Z (N + 1)).bin lv x (a + 1) 0 = .ok x (a + 1) := by
  intro N lv x hlv
  show nBin Z (fns Z N) lv x (a + 1) 0 = _
  unfold nBin binB
  rw [k2, t2, show lev [123] = 0 from rfl, show decide (((0 : Nat) : Int) = (lv : Int)) = false from decide_eq_false (by omega)]
  rfl
 have hex : ∀ N lv, Nat.blt 4 lv = false → (fns Z (N + 1)).expr lv a 0 = ((fns Z N).expr (lv + 1) a 0).bind fun x a1 => (fns Z N).bin lv x a1 0 := by
  intro N lv h
  show nExpr (fns Z N) lv a 0 = _
  unfold nExpr
  rw [h]
 have o : (fns Z (M + 3)).oper a 0 = .ok X (a + 1) := by rw [hop, hpr (M + 1)]; exact hpo _ _
 have h5 : (fns Z (M + 4)).expr 5 a 0 = (fns Z (M + 3)).oper a 0 := rfl
 rw [← h5] at o
 have x4 : (fns Z (M + 5)).expr 4 a 0 = .ok X (a + 1) := by rw [hex _ 4 rfl, o]; exact hbi _ _ _ (by decide)
 have x3 : (fns Z (M + 6)).expr 3 a 0 = .ok X (a + 1) := by rw [hex _ 3 rfl, x4]; exact hbi _ _ _ (by decide)
 have x2 : (fns Z (M + 7)).expr 2 a 0 = .ok X (a + 1) := by rw [hex _ 2 rfl, x3]; exact hbi _ _ _ (by decide)
 rw [hex _ 1 rfl, x2]; exact hbi _ _ _ (by decide)
variable {P : Nat → R Ex}
theorem isS_at' {p : Nat} {k : Int} {x : List Nat} {q : List (Int × List Nat)} (h : At Z p ((k, x) :: q)) (k' : Int) (y : List Nat) : isS Z ⟨p, 0, 0⟩ k' y = (decide (k = k') && decide (x = y)) := by
 unfold isS fineS
 rw [h.is]
 rfl
theorem must_at' {p : Nat} {x : List Nat} {q : List (Int × List Nat)} (h : At Z p ((4, x) :: q)) : mustS Z ⟨p, 0, 0⟩ x = ⟨p + 1, 0, 0⟩ := by
 unfold mustS
 rw [isS_at' h]
 simp [nextS]
theorem open_at {p d : Nat} (hd : d < 30) {q : List (Int × List Nat)} (h : At Z p ((4, [123]) :: q)) (N : Nat) : (sfns Z P (N + 1)).block d ⟨p, 0, 0⟩ = (sfns Z P N).loop (d + 1) [] ⟨p + 1, 0, 0⟩ := by
 show sBlock Z (sfns Z P N) d ⟨p, 0, 0⟩ = _
 unfold sBlock deepB
 rw [decide_eq_false (show ¬ d = 30 by omega), must_at' h]
 rfl
theorem deep_at {p : Nat} {q : List (Int × List Nat)} (h : At Z p ((4, [123]) :: q)) (N : Nat) : (sfns Z P (N + 1)).block 30 ⟨p, 0, 0⟩ = some ([], ⟨p, (nowF Z p).a, 6⟩) := by
 show sBlock Z (sfns Z P N) 30 ⟨p, 0, 0⟩ = _
 unfold sBlock deepB
 rw [h.head.1, h.head.2.1]
 rfl
theorem shut_at {p d : Nat} {acc : List Sx} {q : List (Int × List Nat)} (h : At Z p ((4, [125]) :: q)) (N : Nat) : (sfns Z P (N + 1)).loop d acc ⟨p, 0, 0⟩ = some (acc, ⟨p + 1, 0, 0⟩) := by
 show sLoop Z (sfns Z P N) d acc ⟨p, 0, 0⟩ = _
 unfold sLoop
 rw [isS_at' h]
 rfl
theorem dead_at {d : Nat} {acc : List Sx} {s : Sr} (h : s.c = 6) (N : Nat) : (sfns Z P (N + 1)).loop d acc s = some (acc, s) := by
 show sLoop Z (sfns Z P N) d acc s = _
 unfold sLoop fineS
 rw [h]
 rfl
theorem stmt_at' {p d : Nat} {acc : List Sx} {k : Int} {x : List Nat} {q : List (Int × List Nat)} (h : At Z p ((k, x) :: q)) (hk : k ≠ 4) (N : Nat) {y : Sx} {s1 : Sr} (hs : (sfns Z P N).stmt d ⟨p, 0, 0⟩ = some (y, s1)) : (sfns Z P (N + 1)).loop d acc ⟨p, 0, 0⟩ = (sfns Z P N).loop d (acc ++ [y]) s1 := by
 show sLoop Z (sfns Z P N) d acc ⟨p, 0, 0⟩ = _
 unfold sLoop
 rw [isS_at' h, decide_eq_false hk, hs]
 rfl
variable (hP : ∀ a x q, At Z a ((1, x) :: (4, [123]) :: q) → ∃ y, P a = .ok y (a + 1))
include hP
theorem for_at {p d : Nat} {x : List Nat} {q : List (Int × List Nat)} (h : At Z p ((5, sFor) :: (1, x) :: (4, [123]) :: q)) (N : Nat) {b : List Sx} {s1 : Sr} (hb : (sfns Z P N).block d ⟨p + 2, 0, 0⟩ = some (b, s1)) : ∃ y, (sfns Z P (N + 1)).stmt d ⟨p, 0, 0⟩ = some (y, s1) := by
 obtain ⟨y, hy⟩ := hP _ _ _ h.head.2.2.1
 refine ⟨.mk 5 (nowF Z p).a [] false y b [], ?_⟩
 show sStmt Z P (sfns Z P N) d ⟨p, 0, 0⟩ = _
 have ex : exprS P (nextS ⟨p, 0, 0⟩) = (y, ⟨p + 2, 0, 0⟩) := by
  unfold exprS
  show (match P (p + 1) with | .ok x n => (x, (⟨n, 0, 0⟩ : Sr)) | .er _ _ p' c => (zX, ⟨p + 1, p', c⟩) | .out => (zX, ⟨p + 1, 0, 0⟩)) = _
  rw [hy]
 unfold sStmt
 rw [isS_at' h, isS_at' h, isS_at' h, isS_at' h, ex]
 show (match (sfns Z P N).block d ⟨p + 2, 0, 0⟩ with | none => none | some (b, s1) => some (Sx.mk 5 (nowF Z p).a [] false y b [], s1)) = _
 rw [hb]
theorem if_at {p d : Nat} {x : List Nat} {q : List (Int × List Nat)} (h : At Z p ((5, sIf) :: (1, x) :: (4, [123]) :: q)) (N : Nat) {b : List Sx} {s1 : Sr} (hb : (sfns Z P N).block d ⟨p + 2, 0, 0⟩ = some (b, s1)) :
  (s1.c ≠ 0 → ∃ y, (sfns Z P (N + 1)).stmt d ⟨p, 0, 0⟩ = some (y, s1)) ∧
  (∀ i q, s1 = ⟨i, 0, 0⟩ → At Z i ((5, sElse) :: q) → ∀ b2 s2, (sfns Z P N).block d ⟨i + 1, 0, 0⟩ = some (b2, s2) → ∃ y, (sfns Z P (N + 1)).stmt d ⟨p, 0, 0⟩ = some (y, s2)) := by
 obtain ⟨y, hy⟩ := hP _ _ _ h.head.2.2.1
 have ex : exprS P (nextS ⟨p, 0, 0⟩) = (y, ⟨p + 2, 0, 0⟩) := by
  unfold exprS
  show (match P (p + 1) with | .ok x n => (x, (⟨n, 0, 0⟩ : Sr)) | .er _ _ p' c => (zX, ⟨p + 1, p', c⟩) | .out => (zX, ⟨p + 1, 0, 0⟩)) = _
  rw [hy]
 have st : (sfns Z P (N + 1)).stmt d ⟨p, 0, 0⟩ = (match isS Z s1 5 sElse with
   | true => match (sfns Z P N).block d (nextS s1) with
    | none => none
    | some (e, s2) => some (.mk 4 (nowF Z p).a [] true y b e, s2)
   | false => some (.mk 4 (nowF Z p).a [] false y b [], s1)) := by
  show sStmt Z P (sfns Z P N) d ⟨p, 0, 0⟩ = _
  unfold sStmt
  rw [isS_at' h, isS_at' h, isS_at' h, ex]
  show (match (sfns Z P N).block d ⟨p + 2, 0, 0⟩ with
   | none => none
   | some (b, s1) => match isS Z s1 5 sElse with
    | true => match (sfns Z P N).block d (nextS s1) with
     | none => none
     | some (e, s2) => some (Sx.mk 4 (nowF Z p).a [] true y b e, s2)
    | false => some (Sx.mk 4 (nowF Z p).a [] false y b [], s1)) = _
  rw [hb]
 constructor
 ·intro hc
  refine ⟨.mk 4 (nowF Z p).a [] false y b [], ?_⟩
  rw [st]
  unfold isS fineS
  rw [decide_eq_false hc]
  rfl
 ·intro i q hs he b2 s2 hb2
  subst hs
  refine ⟨.mk 4 (nowF Z p).a [] true y b b2, ?_⟩
  rw [st, isS_at' he]
  show (match (sfns Z P N).block d ⟨i + 1, 0, 0⟩ with | none => none | some (e, s2) => some (Sx.mk 4 (nowF Z p).a [] true y b e, s2)) = _
  rw [hb2]
theorem deep_ok (b : Bool) : ∀ (n p d : Nat) (q : List (Int × List Nat)), d + n < 30 → At Z p ((patU b n).map pz ++ q) → ∀ M, ∃ v, (sfns Z P (M + (5 * n + 5))).block d ⟨p, 0, 0⟩ = some (v, ⟨p + cntU b n, 0, 0⟩)
 | 0, p, d, q, hd, h, M => by
  have h : At Z p ((4, [123]) :: (4, [125]) :: q) := h
  refine ⟨[], ?_⟩
  rw [show M + (5 * 0 + 5) = M + 3 + 1 + 1 by omega, open_at (by omega) h, shut_at h.head.2.2.1]
  rfl
 | n + 1, p, d, q, hd, h, M => by
  have e2 : cntU b (n + 1) = (pOp b).length + (cntU b n + 1) := by simp [cntU, patU]
  have hh : At Z p ((pOp b).map pz ++ ((patU b n).map pz ++ ((4, [125]) :: q))) := by
   have : (patU b (n + 1)).map pz ++ q = (pOp b).map pz ++ ((patU b n).map pz ++ ((4, [125]) :: q)) := by simp [patU, pz]
   rw [← this]; exact h
  have h1 := hh.app
  rw [List.length_map] at h1
  have h2 := h1.app
  rw [List.length_map] at h2
  have hc : cntU b n = (patU b n).length := rfl
  cases b with
  | true =>
   have hh : At Z p ((4, [123]) :: (5, sFor) :: (1, [97]) :: ((patU true n).map pz ++ ((4, [125]) :: q))) := hh
   have hq : ∃ r, (patU true n).map pz ++ ((4, [125]) :: q) = (4, [123]) :: r := by cases n <;> exact ⟨_, rfl⟩
   obtain ⟨r, hr⟩ := hq
   have h1 : At Z (p + 3) ((patU true n).map pz ++ ((4, [125]) :: q)) := h1
   obtain ⟨v, hv⟩ := deep_ok true n (p + 3) (d + 1) _ (by omega) h1 (M + 2)
   rw [hr] at hh
   obtain ⟨y, hy⟩ := for_at hP (d := d + 1) hh.head.2.2.1 (M + 2 + (5 * n + 5)) hv
   refine ⟨[] ++ [y], ?_⟩
   rw [show M + (5 * (n + 1) + 5) = M + 2 + (5 * n + 5) + 1 + 1 + 1 by omega, open_at (by omega) hh, stmt_at' hh.head.2.2.1 (by decide) _ hy]
   have h2 : At Z (p + 3 + cntU true n) ((4, [125]) :: q) := h2
   rw [shut_at h2, e2]
   show some ([] ++ [y], (⟨p + 3 + cntU true n + 1, 0, 0⟩ : Sr)) = some ([] ++ [y], ⟨p + (3 + (cntU true n + 1)), 0, 0⟩)
   rw [show p + 3 + cntU true n + 1 = p + (3 + (cntU true n + 1)) by omega]
  | false =>
   have hh : At Z p ((4, [123]) :: (5, sIf) :: (1, [97]) :: (4, [123]) :: (4, [125]) :: (5, sElse) :: ((patU false n).map pz ++ ((4, [125]) :: q))) := hh
   have k1 := hh.head.2.2.1
   have k3 := k1.head.2.2.1.head.2.2.1
   have k4 := k3.head.2.2.1
   have k5 := k4.head.2.2.1
   have h1 : At Z (p + 6) ((patU false n).map pz ++ ((4, [125]) :: q)) := h1
   obtain ⟨v, hv⟩ := deep_ok false n (p + 6) (d + 1) _ (by omega) h1 (M + 2)
   have hb : (sfns Z P (M + 2 + (5 * n + 5))).block (d + 1) ⟨p + 1 + 2, 0, 0⟩ = some ([], ⟨p + 5, 0, 0⟩) := by
    rw [show M + 2 + (5 * n + 5) = M + 5 * n + 5 + 1 + 1 by omega, open_at (by omega) k3, shut_at k4]
   obtain ⟨y, hy⟩ := (if_at hP (d := d + 1) k1 (M + 2 + (5 * n + 5)) hb).2 (p + 5) _ rfl k5 v _ hv
   refine ⟨[] ++ [y], ?_⟩
   rw [show M + (5 * (n + 1) + 5) = M + 2 + (5 * n + 5) + 1 + 1 + 1 by omega, open_at (by omega) hh, stmt_at' k1 (by decide) _ hy]
   have h2 : At Z (p + 6 + cntU false n) ((4, [125]) :: q) := h2
   rw [shut_at h2, e2]
   show some ([] ++ [y], (⟨p + 6 + cntU false n + 1, 0, 0⟩ : Sr)) = some ([] ++ [y], ⟨p + (6 + (cntU false n + 1)), 0, 0⟩)
   rw [show p + 6 + cntU false n + 1 = p + (6 + (cntU false n + 1)) by omega]
theorem deep_er (b : Bool) : ∀ (n p d : Nat) (q : List (Int × List Nat)), d ≤ 30 → 30 ≤ d + n → At Z p ((patU b n).map pz ++ q) → ∀ M, ∃ v s', (sfns Z P (M + (5 * n + 5))).block d ⟨p, 0, 0⟩ = some (v, s') ∧ s'.c = 6 := by
 intro n
 induction n with
 | zero =>
  intro p d q hd h30 h M
  have : d = 30 := by omega
  subst this
  have h : At Z p ((4, [123]) :: (4, [125]) :: q) := h
  exact ⟨_, _, deep_at h _, rfl⟩
 | succ n ih =>
  intro p d q hd h30 h M
  have hh : At Z p ((pOp b).map pz ++ ((patU b n).map pz ++ ((4, [125]) :: q))) := by
   have : (patU b (n + 1)).map pz ++ q = (pOp b).map pz ++ ((patU b n).map pz ++ ((4, [125]) :: q)) := by simp [patU, pz]
   rw [← this]; exact h
  have h1 := hh.app
  rw [List.length_map] at h1
  cases b with
  | true =>
   have hh : At Z p ((4, [123]) :: (5, sFor) :: (1, [97]) :: ((patU true n).map pz ++ ((4, [125]) :: q))) := hh
   rcases Nat.eq_or_lt_of_le hd with rfl | hd
   ·exact ⟨_, _, deep_at hh _, rfl⟩
   have hq : ∃ r, (patU true n).map pz ++ ((4, [125]) :: q) = (4, [123]) :: r := by cases n <;> exact ⟨_, rfl⟩
   obtain ⟨r, hr⟩ := hq
   have h1 : At Z (p + 3) ((patU true n).map pz ++ ((4, [125]) :: q)) := h1
   obtain ⟨v, s', hv, hc⟩ := ih (p + 3) (d + 1) _ hd (by omega) h1 (M + 2)
   rw [hr] at hh
   obtain ⟨y, hy⟩ := for_at hP (d := d + 1) hh.head.2.2.1 (M + 2 + (5 * n + 5)) hv
   refine ⟨[] ++ [y], s', ?_, hc⟩
   rw [show M + (5 * (n + 1) + 5) = M + 2 + (5 * n + 5) + 1 + 1 + 1 by omega, open_at (by omega) hh, stmt_at' hh.head.2.2.1 (by decide) _ hy]
   exact dead_at hc _
  | false =>
   have hh : At Z p ((4, [123]) :: (5, sIf) :: (1, [97]) :: (4, [123]) :: (4, [125]) :: (5, sElse) :: ((patU false n).map pz ++ ((4, [125]) :: q))) := hh
   rcases Nat.eq_or_lt_of_le hd with rfl | hd
   ·exact ⟨_, _, deep_at hh _, rfl⟩
   have k1 := hh.head.2.2.1
   have k3 := k1.head.2.2.1.head.2.2.1
   have k4 := k3.head.2.2.1
   have k5 := k4.head.2.2.1
   have h1 : At Z (p + 6) ((patU false n).map pz ++ ((4, [125]) :: q)) := h1
   rcases Nat.eq_or_lt_of_le hd with hd | hd
   ·have hd : d + 1 = 30 := hd
    have hb : (sfns Z P (M + 2 + (5 * n + 5))).block (d + 1) ⟨p + 1 + 2, 0, 0⟩ = some ([], ⟨p + 1 + 2, (nowF Z (p + 1 + 2)).a, 6⟩) := by
     rw [show M + 2 + (5 * n + 5) = M + 5 * n + 6 + 1 by omega, hd, deep_at k3]
    obtain ⟨y, hy⟩ := (if_at hP (d := d + 1) k1 (M + 2 + (5 * n + 5)) hb).1 (by show (6 : Int) ≠ 0; decide)
    refine ⟨[] ++ [y], ⟨p + 1 + 2, (nowF Z (p + 1 + 2)).a, 6⟩, ?_, rfl⟩
    rw [show M + (5 * (n + 1) + 5) = M + 2 + (5 * n + 5) + 1 + 1 + 1 by omega, open_at (by omega) hh, stmt_at' k1 (by decide) _ hy]
    exact dead_at rfl _
   ·obtain ⟨v, s', hv, hc⟩ := ih (p + 6) (d + 1) _ (by omega) (by omega) h1 (M + 2)
    have hb : (sfns Z P (M + 2 + (5 * n + 5))).block (d + 1) ⟨p + 1 + 2, 0, 0⟩ = some ([], ⟨p + 5, 0, 0⟩) := by
     rw [show M + 2 + (5 * n + 5) = M + 5 * n + 5 + 1 + 1 by omega, open_at (by omega) k3, shut_at k4]
    obtain ⟨y, hy⟩ := (if_at hP (d := d + 1) k1 (M + 2 + (5 * n + 5)) hb).2 (p + 5) _ rfl k5 v _ hv
    refine ⟨[] ++ [y], s', ?_, hc⟩
    rw [show M + (5 * (n + 1) + 5) = M + 2 + (5 * n + 5) + 1 + 1 + 1 by omega, open_at (by omega) hh, stmt_at' k1 (by decide) _ hy]
    exact dead_at hc _
end
end Go.VM
end
section
/- Statements: blocks that are deep: the law, walked. -/
set_option maxRecDepth 100000
set_option linter.unusedVariables false
set_option linter.unusedSimpArgs false
namespace Go.VM
open Go.RowKit
theorem deepU_len (b : Bool) : ∀ n, (deepU b n).length ≤ 2 + 12 * n
 | 0 => Nat.le_refl _
 | n + 1 => by
  have ih := deepU_len b n
  rw [deepU]
  cases b <;> simp [dOp] <;> omega
theorem deepU_b (b : Bool) : ∀ n, ∀ c ∈ deepU b n, c < 256
 | 0, c, h => by
  have h : c ∈ [123, 125] := h
  simp only [List.mem_cons, List.not_mem_nil, or_false] at h
  omega
 | n + 1, c, h => by
  have ih := deepU_b b n
  have h1 : ∀ c ∈ dOp b, c < 256 := by cases b <;> decide
  simp only [deepU, List.mem_append, List.mem_singleton] at h
  rcases h with (h | h) | h
  ·exact h1 c h
  ·exact ih c h
  ·omega
def duTm (b : Bool) (n i : Nat) : TM := [(0, .v (.int .i64 n)), (1, .v (.bool b)), (5, .v (.bool true)), (6, .v (.str (deepU b i))), (7, .v (.int .i64 i))]
theorem deepU_loop {QN : S → Prop} {QX : X → S → Prop} (b : Bool) (n : Nat) (hn : n < 70) (h0 : ∀ tm, TellT tm [] [(0, .v (.int .i64 n)), (5, .v (.bool true)), (6, .v (.str (deepU b n)))] → QX (.exit 0) (SL.toS ⟨tm, [], none, 1000, tOl, []⟩)) : ∀ (m i : Nat), i + m = n →
  WLr Go.Proofs.Tryd.prog [0] ⟨Go.Proofs.Tryd.f10.ntmps, none, 10⟩ rc10_L1 (SL.toS ⟨duTm b n i, [], none, 1000, tOl, []⟩) QN QX := by
 intro m
 induction m with
 | zero =>
  intro i hi
  have hi : i = n := hi
  subst hi
  unfold rc10_L1
  refine WLr.of ?_
  repeat (refine WR.seq ?_)
  refine WR.reg (WQ.runS [] 3 _ _ _ _ rfl ?_)
  rw [show decide ((i : Int) < (i : Int)) = false from decide_eq_false (by omega)]
  refine WQ.runS [] 1000 _ _ _ _ rfl (WQ.nilS ?_)
  repeat (refine WR.seq ?_)
  refine WR.condF rfl (WR.exit (h0 _ ?_))
  repeat (first | exact .nil | refine .cons rfl (.v (VLe.refl _)) ?_)
 | succ m ih =>
  intro i hi
  have hl := deepU_len b i
  have ih' := ih (i + 1) (by omega)
  unfold duTm at ih'
  simp only [deepU] at ih'
  unfold rc10_L1
  refine WLr.of ?_
  repeat (refine WR.seq ?_)
  refine WR.reg (WQ.runS [] 3 _ _ _ _ rfl ?_)
  rw [show decide ((i : Int) < (n : Int)) = true from decide_eq_true (by omega)]
  refine WQ.runS [] 1000 _ _ _ _ rfl (WQ.nilS ?_)
  repeat (refine WR.seq ?_)
  refine WR.condT rfl (WR.skip ?_)
  repeat (first | refine WR.seq ?_ | refine WR.block ?_)
  repeat (refine WR.seq ?_)
  refine WR.reg (WQ.runS [] 1 _ _ _ _ rfl ?_)
  cases b with
  | true =>
   refine WQ.runS [] 1000 _ _ _ _ rfl (WQ.nilS ?_)
   refine WR.condT rfl ?_
   repeat (refine WR.seq ?_)
   refine WR.reg (WQ.runS [] 1 _ _ _ _ rfl ?_)
   refine WQ.lightS rfl rfl rfl (add_str rfl rfl (by simp; unfold lim; omega) _) rfl ?_
   refine WQ.lightS rfl rfl rfl (add_str rfl rfl (by simp; unfold lim; omega) _) rfl ?_
   refine WQ.runS [] 1000 _ _ _ _ rfl (WQ.nilS ?_)
   unfold rc10_J1
   repeat (refine WR.seq ?_)
   refine WR.reg (WQ.runS [] 2 _ _ _ _ rfl ?_)
   rw [nextB (by unfold big; omega)]
   refine WQ.runS [] 1000 _ _ _ _ rfl (WQ.nilS ?_)
   refine WIr.again (WLr.weak ?_ ih')
   refine SW.tellR ?_ ?_
   ·repeat (first | exact .nil | refine .cons rfl (.v (VLe.refl _)) ?_ | refine .cons rfl (.l _ _ rfl) ?_ | refine .cons rfl (.v (VLe.unk _ _)) ?_)
   ·repeat (first | exact .nil | refine .cons rfl (.inl rfl) ?_)
  | false =>
   refine WQ.runS [] 1000 _ _ _ _ rfl (WQ.nilS ?_)
   refine WR.condF rfl ?_
   repeat (refine WR.seq ?_)
   refine WR.reg (WQ.runS [] 1 _ _ _ _ rfl ?_)
   refine WQ.lightS rfl rfl rfl (add_str rfl rfl (by simp; unfold lim; omega) _) rfl ?_
   refine WQ.lightS rfl rfl rfl (add_str rfl rfl (by simp; unfold lim; omega) _) rfl ?_
   refine WQ.runS [] 1000 _ _ _ _ rfl (WQ.nilS ?_)
   unfold rc10_J1
   repeat (refine WR.seq ?_)
   refine WR.reg (WQ.runS [] 2 _ _ _ _ rfl ?_)
   rw [nextB (by unfold big; omega)]
   refine WQ.runS [] 1000 _ _ _ _ rfl (WQ.nilS ?_)
   refine WIr.again (WLr.weak ?_ ih')
   refine SW.tellR ?_ ?_
   ·repeat (first | exact .nil | refine .cons rfl (.v (VLe.refl _)) ?_ | refine .cons rfl (.l _ _ rfl) ?_ | refine .cons rfl (.v (VLe.unk _ _)) ?_)
   ·repeat (first | exact .nil | refine .cons rfl (.inl rfl) ?_)
theorem parse_fuel (l : List Tz) (hl : l.length < 19999) (hT : ∀ t ∈ l, t.t.length < big) (F0 : Nat) : ∃ F, F0 ≤ F ∧ ParseOk l (fun a => (fns l F).expr 1 a 0) := by
 obtain ⟨F, hF⟩ := fuel_all l (l.length + 1) (Nat.le_refl _)
 refine ⟨max F F0, by omega, parse_ok l hl hT _ fun a ha => ?_⟩
 have h := hF a (by omega)
 rw [h.2 (max F F0) (by omega)]
 exact h.1
theorem deepU_spec (b : Bool) (n : Nat) (hn : n < 70) : ∃ T Z, lexR (deepU b n) = (T, 0, 0) ∧ T.map toZ = Z ∧ Z.length = cntU b n + 1 ∧ ∃ v : List Sx, ∃ s' : Sr, (∀ h, SCall Go.Proofs.Tryd.prog [0] 17 [lsV Z, .int .i64 0] none h (.ret (stV (v, s'))) none h) ∧ (n < 30 → s' = ⟨cntU b n, 0, 0⟩) ∧ (30 ≤ n → s'.c = 6) := by
 obtain ⟨T, h1, h2⟩ := deepU_lex b n hn
 have hc := cntU_le b n
 have hlen : T.length = cntU b n + 1 := by
  have := congrArg List.length h2
  rw [List.length_map, List.length_append] at this
  exact this
 have g := lexR_good h1
 have hlenZ : (T.map toZ).length = cntU b n + 1 := by rw [List.length_map, hlen]
 have hat : At (T.map toZ) 0 ((patU b n).map pz ++ [(0, [])]) := by
  show ((T.map toZ).drop 0).map kz = _
  rw [List.drop_zero, List.map_map]
  have : (kz ∘ toZ) = (pz ∘ kt) := by funext t; rfl
  rw [this, ← List.map_map, h2, List.map_append]
  rfl
 obtain ⟨F, hF, hP⟩ := parse_fuel (T.map toZ) (by omega) (toZ_text g (by have := deepU_len b n; unfold big; omega)) 8
 have hN : ∀ a x q, At (T.map toZ) a ((1, x) :: (4, [123]) :: q) → ∃ y, (fun a => (fns (T.map toZ) F).expr 1 a 0) a = .ok y (a + 1) := fun a x q h => name_expr h F hF
 refine ⟨T, _, h1, rfl, hlenZ, ?_⟩
 rcases Nat.lt_or_ge n 30 with h | h
 ·obtain ⟨v, hv⟩ := deep_ok hN b n 0 0 _ (by omega) hat 0
  refine ⟨v, _, fun hh => sparse_sp hP (by omega) _ 0 (Nat.zero_le _) hv hh, fun _ => by rw [Nat.zero_add], fun h2 => by omega⟩
 ·obtain ⟨v, s', hv, hc6⟩ := deep_er hN b n 0 0 _ (by omega) (by omega) hat 0
  exact ⟨v, s', fun hh => sparse_sp hP (by omega) _ 0 (Nat.zero_le _) hv hh, fun h2 => by omega, fun _ => hc6⟩
theorem deepU_tail (b : Bool) (m : Nat) (hm : m < 70) {tm : TM} (ht : TellT tm [] [(0, .v (.int .i64 m)), (5, .v (.bool true)), (6, .v (.str (deepU b m)))]) :
  WR Go.Proofs.Tryd.prog [0] ⟨Go.Proofs.Tryd.f10.ntmps, none, 10⟩ rc10_J2 (SL.toS ⟨tm, [], none, 1000, tOl, []⟩) (RetS Go.Proofs.Tryd.prog Go.Proofs.Tryd.f10 (.bool true) 1000 tOl) (retX (RetS Go.Proofs.Tryd.prog Go.Proofs.Tryd.f10 (.bool true) 1000 tOl)) := by
 refine WR.weak (SW.tellR ht .nil) ?_
 obtain ⟨T, Z, h1, h2, h3, v, s', sp, hok, her⟩ := deepU_spec b m hm
 have hc := cntU_le b m
 have al := all_ok (deepU_b b m) (by have := deepU_len b m; unfold big; omega) (by rw [h1])
 rw [h1] at al
 have al : SCall Go.Proofs.Tryd.prog [0] 12 [.str (deepU b m)] none ⟨1000, og tOl, []⟩ (.ret (.tup [lsV Z, .agg (dg 0 0)])) none ⟨1000, og tOl, []⟩ := by rw [← h2]; exact al
 generalize deepU b m = s at al ⊢
 unfold rc10_J2
 repeat (refine WR.seq ?_)
 refine WR.reg (WQ.runS [] 1 _ _ _ _ rfl ?_)
 refine WQ.callH rfl rfl rfl rfl rfl (SCall.relc al _) .base rfl ?_
 refine WQ.runS [] 1000 _ _ _ _ rfl (WQ.nilS ?_)
 repeat (refine WR.seq ?_)
 refine WR.reg (WQ.runS [] 1 _ _ _ _ rfl ?_)
 rcases Nat.lt_or_ge m 30 with h | h
 ·have hs := hok h
  subst hs
  have e : stV (v, ⟨cntU b m, 0, 0⟩) = .tup [.lst (encSxs v) .unk, .int .i64 (cntU b m : Nat), .agg (dgX 0 0)] := rfl
  rw [e] at sp
  refine WQ.callH rfl rfl rfl rfl rfl (sp _) .base rfl ?_
  refine WQ.runS [] 1000 _ _ _ _ rfl (WQ.nilS ?_)
  repeat (refine WR.seq ?_)
  refine WR.reg (WQ.runS [] 1000 _ _ _ _ rfl (WQ.nilS ?_))
  repeat (refine WR.seq ?_)
  refine WR.condF rfl (WR.skip ?_)
  repeat (refine WR.seq ?_)
  refine WR.reg (WQ.runS [] 2 _ _ _ _ rfl ?_)
  rw [show decide ((m : Int) ≥ 30) = false from decide_eq_false (by omega)]
  refine WQ.runS [] 1000 _ _ _ _ rfl (WQ.nilS ?_)
  repeat (refine WR.seq ?_)
  refine WR.condF rfl (WR.skip ?_)
  repeat (refine WR.seq ?_)
  refine WR.reg (WQ.runS [] 10 _ _ _ _ rfl ?_)
  rw [List.length_map, h3]
  refine WQ.runS [] 1 _ _ _ _ rfl ?_
  rw [subB1 (by omega) (by unfold big; omega), Nat.add_sub_cancel]
  refine WQ.runS [] 1 _ _ _ _ rfl ?_
  rw [show decide (((cntU b m : Nat) : Int) = ((cntU b m : Nat) : Int)) = true from decide_eq_true rfl]
  refine WQ.runS [] 1000 _ _ _ _ rfl (WQ.nilS ?_)
  exact WR.ret ⟨rfl, rfl, ⟨_, rfl, VLe.refl _⟩, fun _ _ => rfl⟩
 ·have hs := her h
  have e : stV (v, s') = .tup [.lst [] (.ex 0), .int .i64 0, .agg (dgX s'.p 6)] := by
   unfold stV fineS
   rw [hs]
   rfl
  rw [e] at sp
  refine WQ.callH rfl rfl rfl rfl rfl (sp _) .base rfl ?_
  refine WQ.runS [] 1000 _ _ _ _ rfl (WQ.nilS ?_)
  repeat (refine WR.seq ?_)
  refine WR.reg (WQ.runS [] 1000 _ _ _ _ rfl (WQ.nilS ?_))
  repeat (refine WR.seq ?_)
  refine WR.condF rfl (WR.skip ?_)
  repeat (refine WR.seq ?_)
  refine WR.reg (WQ.runS [] 2 _ _ _ _ rfl ?_)
  rw [show decide ((m : Int) ≥ 30) = true from decide_eq_true (by omega)]
  refine WQ.runS [] 1000 _ _ _ _ rfl (WQ.nilS ?_)
  repeat (refine WR.seq ?_)
  refine WR.condT rfl ?_
  repeat (refine WR.seq ?_)
  refine WR.reg (WQ.runS [] 1000 _ _ _ _ rfl (WQ.nilS ?_))
  exact WR.ret ⟨rfl, rfl, ⟨_, rfl, VLe.refl _⟩, fun _ _ => rfl⟩
theorem deepU_pre (b : Bool) (q : Nat) {tm : TM} (ht : TellT tm [] [(0, .v (.int .i64 q)), (1, .v (.bool b)), (5, .v (.bool true))]) :
  WR Go.Proofs.Tryd.prog [0] ⟨Go.Proofs.Tryd.f10.ntmps, none, 10⟩ rc10_J3 (SL.toS ⟨tm, [], none, 1000, tOl, []⟩) (RetS Go.Proofs.Tryd.prog Go.Proofs.Tryd.f10 (.bool true) 1000 tOl) (retX (RetS Go.Proofs.Tryd.prog Go.Proofs.Tryd.f10 (.bool true) 1000 tOl)) := by
 refine WR.weak (SW.tellR ht .nil) ?_
 have hm : q % 70 < 70 := Nat.mod_lt _ (by decide)
 unfold rc10_J3
 repeat (refine WR.seq ?_)
 refine WR.reg (WQ.runS [] 2 _ _ _ _ rfl ?_)
 rw [show ((q : Int).tmod 70) = ((q % 70 : Nat) : Int) from rfl]
 generalize q % 70 = m at hm
 refine WQ.runS [] 1000 _ _ _ _ rfl (WQ.nilS ?_)
 repeat (refine WR.seq ?_)
 refine WR.reg (WQ.runS [] 1000 _ _ _ _ rfl (WQ.nilS ?_))
 repeat (refine WR.seq ?_)
 refine WR.reg (WQ.runS [] 1000 _ _ _ _ rfl (WQ.nilS ?_))
 repeat (refine WR.seq ?_)
 refine WR.block (WR.loop (WLr.weak (s := SL.toS ⟨duTm b m 0, [], none, 1000, tOl, []⟩) ?_ (deepU_loop b m hm (fun tm ht => ?_) m 0 (by omega))))
 ·refine SW.tellR ?_ ?_
  ·repeat (first | exact .nil | refine .cons rfl (.v (VLe.refl _)) ?_ | refine .cons rfl (.l _ _ rfl) ?_ | refine .cons rfl (.v (VLe.unk _ _)) ?_)
  ·repeat (first | exact .nil | refine .cons rfl (.inl rfl) ?_)
 ·exact deepU_tail b m hm ht
theorem deepS_spec (n0 : Int) (b : Bool) (h1 : -9223372036854775808 ≤ n0) (h2 : n0 < 9223372036854775808) : SCall Go.Proofs.Tryd.prog [0] 10 [.int .i64 n0, .bool b] none (hT 0 .u8 spaces) (.ret (.bool true)) none (hT 0 .u8 spaces) := by
 show SCall Go.Proofs.Tryd.prog [0] 10 [.int .i64 n0, .bool b] none ⟨1000, og tOl, []⟩ (.ret (.bool true)) none ⟨1000, og tOl, []⟩
 refine SCall.listed (fn := Go.Proofs.Tryd.f10) (by kernel_rfl) res10 (by kernel_rfl) (by kernel_rfl) (Nat.le_refl _) rfl ((by exact ⟨tabS_in, trivial⟩)) trivial ?_
 unfold rc10
 repeat (refine WR.seq ?_)
 refine WR.reg (WQ.runS [] 1000 _ _ _ _ rfl (WQ.nilS ?_))
 repeat (refine WR.seq ?_)
 refine WR.reg (WQ.callH rfl rfl rfl rfl rfl awakeS_sp .base rfl ?_)
 refine WQ.runS [] 1000 _ _ _ _ rfl (WQ.nilS ?_)
 repeat (refine WR.seq ?_)
 refine WR.reg (WQ.runS [] 2 _ _ _ _ rfl ?_)
 by_cases hn : n0 < 0
 ·rw [show decide (n0 < 0) = true from decide_eq_true hn]
  refine WQ.runS [] 1000 _ _ _ _ rfl (WQ.nilS ?_)
  repeat (refine WR.seq ?_)
  refine WR.condT rfl ?_
  repeat (refine WR.seq ?_)
  refine WR.reg (WQ.runS [] 2 _ _ _ _ rfl ?_)
  rw [wrap64 (by omega) (by omega)]
  refine WQ.runS [] 1 _ _ _ _ rfl ?_
  obtain ⟨q, hq⟩ : ∃ q : Nat, 0 - (n0 + 1) = (q : Int) := ⟨(0 - (n0 + 1)).toNat, by omega⟩
  rw [hq, wrap64 (by omega) (by omega)]
  refine WQ.runS [] 1000 _ _ _ _ rfl (WQ.nilS ?_)
  refine deepU_pre b q ?_
  repeat (first | exact .nil | refine .cons rfl (.v (VLe.refl _)) ?_)
 ·rw [show decide (n0 < 0) = false from decide_eq_false hn]
  refine WQ.runS [] 1000 _ _ _ _ rfl (WQ.nilS ?_)
  repeat (refine WR.seq ?_)
  refine WR.condF rfl (WR.skip ?_)
  obtain ⟨q, hq⟩ : ∃ q : Nat, n0 = (q : Int) := ⟨n0.toNat, by omega⟩
  subst hq
  refine deepU_pre b q ?_
  repeat (first | exact .nil | refine .cons rfl (.v (VLe.refl _)) ?_)
end Go.VM
end
