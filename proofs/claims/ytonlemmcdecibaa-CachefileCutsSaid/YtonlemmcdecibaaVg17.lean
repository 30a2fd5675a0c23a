/- laid for this seat: VcRel2 VcKeep VcKeep2 VcWorld VcWorld2 VcLasts -/
import Derived.Test.YtonlemmcdecibaaVg16
section
/- A cache in memory is what its disk has: behind laying all anew, too. -/
set_option maxRecDepth 100000
set_option linter.unusedVariables false
set_option linter.unusedSimpArgs false
namespace Go.VM
theorem addP_eff {d : Dk} {N : CSt} (rt : N.root = 0 ∨ N.root = 1) (h : RelA (areaOf d N.root) N) (k v : List Nat) (hk : k.length ≤ 2147483647) (hv : v.length ≤ 2147483647) (k8 : ∀ x ∈ k, x < 256) (v8 : ∀ x ∈ v, x < 256) :
  (((addP d N (entryB k v)).2.2 = 0 ∧ RelA (areaOf (addP d N (entryB k v)).1 N.root) (storeC (addP d N (entryB k v)).2.1 k v) ∧ (addP d N (entryB k v)).2.1.L = N.L ∧ (addP d N (entryB k v)).2.1.last = N.last ∧ (Fine d → Fine (addP d N (entryB k v)).1)) ∨ ((addP d N (entryB k v)).2.2 ≠ 0 ∧ ¬ Fine d)) ∧
  (addP d N (entryB k v)).1.root = d.root ∧ areaOf (addP d N (entryB k v)).1 (1 - N.root) = areaOf d (1 - N.root) ∧ (addP d N (entryB k v)).2.1.root = N.root := by
 have e1 : (addP d N (entryB k v)).1 = (write d ⟨1, N.root, entryB k v⟩).1 := rfl
 have e2 : (addP d N (entryB k v)).2.2 = (write d ⟨1, N.root, entryB k v⟩).2 := rfl
 have e3 : (addP d N (entryB k v)).2.1 = if (write d ⟨1, N.root, entryB k v⟩).2 = 0 then { N with len := N.len + (entryB k v).length } else N := rfl
 rw [e1, e2, e3]
 rcases write_or d ⟨1, N.root, entryB k v⟩ rt with ⟨q1, d1, q2, q3, q4⟩ | ⟨q1, q2, q3⟩
 ·rw [q1]
  simp only [if_true]
  obtain ⟨g1, g2, g3⟩ := done_app d1 N.root (entryB k v) rt
  refine ⟨.inl ⟨trivial, ?_, trivial, trivial, q4⟩, ?_, ?_, trivial⟩
  ·rw [q3, g1, q2.area]
   exact h.entry k v hk hv k8 v8
  ·rw [q3, g3, q2.root]
  ·rw [q3, g2, q2.area]
 ·simp only [if_neg q1]
  exact ⟨.inr ⟨q1, q3⟩, q2.root, q2.area _, trivial⟩
theorem marksP_eff {d : Dk} {N : CSt} (rt : N.root = 0 ∨ N.root = 1) (h : RelA (areaOf d N.root) N) (i : Nat) (e : EZ) (hi : i ≤ 2147483647) (he : N.L[i]? = some e) (hl : e.live = false) :
  (((marksP d N 2 i).2.2 = 0 ∧ RelA (areaOf (marksP d N 2 i).1 N.root) (marksP d N 2 i).2.1 ∧ (marksP d N 2 i).2.1.L = setMark N.L i (N.last + 1) ∧ (marksP d N 2 i).2.1.last = N.last + 1 ∧ (Fine d → Fine (marksP d N 2 i).1)) ∨ ((marksP d N 2 i).2.2 ≠ 0 ∧ ¬ Fine d)) ∧
  (marksP d N 2 i).1.root = d.root ∧ areaOf (marksP d N 2 i).1 (1 - N.root) = areaOf d (1 - N.root) ∧ (marksP d N 2 i).2.1.root = N.root := by
 have e1 : (marksP d N 2 i).1 = (write d ⟨1, N.root, markB 2 i⟩).1 := rfl
 have e2 : (marksP d N 2 i).2.2 = (write d ⟨1, N.root, markB 2 i⟩).2 := rfl
 have e3 : (marksP d N 2 i).2.1 = if (write d ⟨1, N.root, markB 2 i⟩).2 = 0 then { (if (write d ⟨1, N.root, markB 2 i⟩).2 = 0 then { N with len := N.len + (markB 2 i).length } else N) with last := N.last + 1, L := setMark N.L i (N.last + 1) } else N := rfl
 rw [e1, e2, e3]
 rcases write_or d ⟨1, N.root, markB 2 i⟩ rt with ⟨q1, d1, q2, q3, q4⟩ | ⟨q1, q2, q3⟩
 ·rw [q1]
  simp only [if_true]
  obtain ⟨g1, g2, g3⟩ := done_app d1 N.root (markB 2 i) rt
  refine ⟨.inl ⟨trivial, ?_, trivial, trivial, q4⟩, ?_, ?_, trivial⟩
  ·rw [q3, g1, q2.area]
   exact h.mark 2 i e (.inl rfl) hi he hl
  ·rw [q3, g3, q2.root]
  ·rw [q3, g2, q2.area]
 ·simp only [if_neg q1]
  exact ⟨.inr ⟨q1, q3⟩, q2.root, q2.area _, trivial⟩
structure Mid (d : Dk) (e : Int) (N : CSt) (to : Int) (base : List Nat) : Prop where
 rt : to = 0 ∨ to = 1
 root : d.root = 1 - to
 oth : areaOf d (1 - to) = base
 nr : N.root = to
 rel : e = 0 → RelA (areaOf d to) N
structure Byte (x : EZ) : Prop where
 k : ∀ c ∈ x.k, c < 256
 v : ∀ c ∈ x.v, c < 256
 kl : x.k.length ≤ 2147483647
 vl : x.v.length ≤ 2147483647
def newE (x : EZ) (la : Int) : EZ := ⟨x.k, x.v, true, la⟩
theorem cstep_mid {d : Dk} {e : Int} {N : CSt} {to : Int} {base : List Nat} (x : EZ) (hb : Byte x) (hn : N.L.length ≤ 2147483647) (m : Mid d e N to base) :
  Mid (cstep (d, e, N) x).1 (cstep (d, e, N) x).2.1 (cstep (d, e, N) x).2.2 to base ∧ ((cstep (d, e, N) x).2.1 = 0 → e = 0 ∧ (cstep (d, e, N) x).2.2.L = N.L ++ [newE x (N.last + 1)] ∧ (cstep (d, e, N) x).2.2.last = N.last + 1) ∧ (Fine d → e = 0 → (cstep (d, e, N) x).2.1 = 0 ∧ Fine (cstep (d, e, N) x).1) := by
 obtain ⟨rt, root, oth, nr, rel⟩ := m
 subst nr
 by_cases he : e = 0
 ·subst he
  obtain ⟨a1, a2, a3, a4⟩ := addP_eff rt (rel rfl) x.k x.v hb.kl hb.vl hb.k hb.v
  have hc : cstep (d, 0, N) x = (if (addP d N (entryB x.k x.v)).2.2 = 0 then ((marksP (addP d N (entryB x.k x.v)).1 (putN (addP d N (entryB x.k x.v)).2.1 x) 2 (addP d N (entryB x.k x.v)).2.1.L.length).1, (marksP (addP d N (entryB x.k x.v)).1 (putN (addP d N (entryB x.k x.v)).2.1 x) 2 (addP d N (entryB x.k x.v)).2.1.L.length).2.2, (marksP (addP d N (entryB x.k x.v)).1 (putN (addP d N (entryB x.k x.v)).2.1 x) 2 (addP d N (entryB x.k x.v)).2.1.L.length).2.1) else ((addP d N (entryB x.k x.v)).1, (addP d N (entryB x.k x.v)).2.2, putN (addP d N (entryB x.k x.v)).2.1 x)) := by
   simp only [cstep, if_true]
  rw [hc]
  generalize addP d N (entryB x.k x.v) = A at *
  obtain ⟨d1, N1, e1⟩ := A
  dsimp only at a1 a2 a3 a4 ⊢
  rcases a1 with ⟨b1, b2, b3, b4, b5⟩ | ⟨b1, b2⟩
  ·subst b1
   rw [if_pos rfl]
   have hpr : (putN N1 x).root = N.root := a4
   have hget : (putN N1 x).L[N1.L.length]? = some ⟨x.k, x.v, false, 0⟩ := putN_get N1 x
   obtain ⟨c1, c2, c3, c4⟩ := marksP_eff (d := d1) (N := putN N1 x) (by rw [hpr]; exact rt) (by rw [hpr]; exact b2) N1.L.length ⟨x.k, x.v, false, 0⟩ (by rw [b3]; exact hn) hget rfl
   have hset : setMark (putN N1 x).L N1.L.length ((putN N1 x).last + 1) = N.L ++ [newE x (N.last + 1)] := by
    unfold setMark
    rw [hget]
    show (N1.L ++ [_]).set N1.L.length _ = _
    rw [List.set_append_right _ _ (Nat.le_refl _), Nat.sub_self, b3]
    show N.L ++ [_] = _
    show N.L ++ [(⟨x.k, x.v, true, N1.last + 1⟩ : EZ)] = _
    rw [b4]; rfl
   have hla : (putN N1 x).last = N.last := b4
   rw [hset] at c1
   rw [hpr] at c1 c3 c4
   rw [hla] at c1
   generalize marksP d1 (putN N1 x) 2 N1.L.length = M at *
   obtain ⟨d2, N2, e2⟩ := M
   dsimp only at c1 c2 c3 c4 ⊢
   refine ⟨⟨rt, by rw [c2, a2]; exact root, by rw [c3, a3]; exact oth, c4, fun h => ?_⟩, fun h => ?_, fun f _ => ?_⟩
   ·rcases c1 with c | c
    ·exact c.2.1
    ·exact absurd h c.1
   ·rcases c1 with c | c
    ·exact ⟨rfl, c.2.2.1, c.2.2.2.1⟩
    ·exact absurd h c.1
   ·rcases c1 with c | c
    ·exact ⟨c.1, c.2.2.2.2 (b5 f)⟩
    ·exact absurd (b5 f) c.2
  ·rw [if_neg b1]
   exact ⟨⟨rt, a2.trans root, a3.trans oth, a4, fun h => absurd h b1⟩, fun h => absurd h b1, fun f _ => absurd f b2⟩
 ·have hc : cstep (d, e, N) x = (d, e, putN N x) := by simp only [cstep, if_neg he]
  rw [hc]
  exact ⟨⟨rt, root, oth, rfl, fun h => absurd h he⟩, fun h => absurd h he, fun _ h => absurd h he⟩
def mkL : Int → List EZ → List EZ
 | _, [] => []
 | la, x :: xs => newE x (la + 1) :: mkL (la + 1) xs
theorem cstep_stpL (d : Dk) (e : Int) (N : CSt) (x : EZ) : (cstep (d, e, N) x).2.2.L.length = N.L.length + 1 := by
 have key : ∀ (d1 : Dk) (e1 : Int) (N1 : CSt), N1.L = N.L → (if e1 = 0 then ((marksP d1 (putN N1 x) 2 N1.L.length).1, (marksP d1 (putN N1 x) 2 N1.L.length).2.2, (marksP d1 (putN N1 x) 2 N1.L.length).2.1) else (d1, e1, putN N1 x) : Dk × Int × CSt).2.2.L.length = N.L.length + 1 := by
  intro d1 e1 N1 h
  split
  ·show (marksP d1 (putN N1 x) 2 N1.L.length).2.1.L.length = _
   rw [(marksP_facts d1 (putN N1 x) 2 N1.L.length).2.1]
   show (N1.L ++ [_]).length = _
   rw [h]; simp
  ·show (N1.L ++ [_]).length = _
   rw [h]; simp
 by_cases he : e = 0
 ·subst he
  have := key (addP d N (entryB x.k x.v)).1 (addP d N (entryB x.k x.v)).2.2 _ (addP_L d N (entryB x.k x.v)).1
  simpa only [cstep, if_true] using this
 ·have := key d e N rfl
  simpa only [cstep, if_neg he] using this
theorem fold_mid {to : Int} {base : List Nat} : ∀ (xs : List EZ) {d : Dk} {e : Int} {N : CSt}, (∀ x ∈ xs, Byte x) → N.L.length + xs.length ≤ 2147483647 → Mid d e N to base →
  Mid (xs.foldl cstep (d, e, N)).1 (xs.foldl cstep (d, e, N)).2.1 (xs.foldl cstep (d, e, N)).2.2 to base ∧ ((xs.foldl cstep (d, e, N)).2.1 = 0 → e = 0 ∧ (xs.foldl cstep (d, e, N)).2.2.L = N.L ++ mkL N.last xs ∧ (xs.foldl cstep (d, e, N)).2.2.last = N.last + xs.length) ∧ (Fine d → e = 0 → (xs.foldl cstep (d, e, N)).2.1 = 0 ∧ Fine (xs.foldl cstep (d, e, N)).1)
 | [], d, e, N, _, _, m => ⟨m, fun h => ⟨h, by simp [mkL], by simp⟩, fun f h => ⟨h, f⟩⟩
 | x :: xs, d, e, N, hb, hn, m => by
  obtain ⟨m1, m2, m3⟩ := cstep_mid x (hb x (by simp)) (by simp at hn; omega) m
  have hst := cstep_stpL d e N x
  rw [List.foldl_cons]
  generalize cstep (d, e, N) x = A at *
  obtain ⟨d1, e1, N1⟩ := A
  dsimp only at m1 m2 m3 hst
  obtain ⟨f1, f2, f3⟩ := fold_mid xs (fun y hy => hb y (by simp [hy])) (by simp at hn; omega) m1
  refine ⟨f1, fun h => ?_, fun f h => f3 (m3 f h).2 (m3 f h).1⟩
  obtain ⟨g1, g2, g3⟩ := f2 h
  obtain ⟨k1, k2, k3⟩ := m2 g1
  refine ⟨k1, ?_, ?_⟩
  ·rw [g2, k2, k3]; simp [mkL]
  ·rw [g3, k3, List.length_cons]; push_cast; omega
def keptX (C : CSt) : List EZ := pickF C.L (keptF C.L C.most C.bytes).reverse
theorem compP_rel {d : Dk} {C : CSt} (h : Rel d C) (hb : ∀ e ∈ C.L, Byte e) (hn : C.L.length ≤ 2147483647) :
  Rel (compP d C).1 (compP d C).2.1 ∧ (Fine d → (compP d C).2.2 = 0 ∧ Fine (compP d C).1) ∧ ((compP d C).2.2 = 0 → (compP d C).2.1.L = mkL 0 (keptX C) ∧ (compP d C).2.1.last = (keptX C).length) ∧ ((compP d C).2.2 ≠ 0 → (compP d C).2.1 = C) := by
 have hr1 : 1 - C.root = 0 ∨ 1 - C.root = 1 := by have := h.rt; omega
 have hback : 1 - (1 - C.root) = C.root := by omega
 have hlen := keptLen C
 have hbx : ∀ x ∈ keptX C, Byte x := fun x hx => hb x (pickF_mem hx)
 have m0 : Mid (write d ⟨2, 1 - C.root, []⟩).1 (write d ⟨2, 1 - C.root, []⟩).2 (newC C) (1 - C.root) (areaOf d C.root) ∧ (Fine d → (write d ⟨2, 1 - C.root, []⟩).2 = 0 ∧ Fine (write d ⟨2, 1 - C.root, []⟩).1) := by
  rcases write_or d ⟨2, 1 - C.root, []⟩ hr1 with ⟨q1, d1, q2, q3, q4⟩ | ⟨q1, q2, q3⟩
  ·obtain ⟨g1, g2, g3⟩ := done_clear d1 (1 - C.root) hr1
   refine ⟨⟨hr1, ?_, ?_, rfl, fun _ => ?_⟩, fun f => ⟨q1, q4 f⟩⟩
   ·rw [q3, g3, q2.root, h.root, hback]
   ·rw [q3, g2, q2.area, hback]
   ·rw [q3, g1]
    exact ⟨⟨sc0, .z, rfl, rfl⟩, rfl, fun x hx => nomatch hx⟩
  ·refine ⟨⟨hr1, ?_, ?_, rfl, fun e => absurd e q1⟩, fun f => absurd f q3⟩
   ·rw [q2.root, h.root, hback]
   ·rw [q2.area, hback]
 have f0 := fold_mid (keptX C) hbx (by show 0 + (keptX C).length ≤ _; unfold keptX; omega) m0.1
 have e0 : laidP d C = (keptX C).foldl cstep ((write d ⟨2, 1 - C.root, []⟩).1, (write d ⟨2, 1 - C.root, []⟩).2, newC C) := rfl
 rw [← e0] at f0
 unfold compP
 generalize laidP d C = R at f0 ⊢
 obtain ⟨d1, e1, N⟩ := R
 obtain ⟨⟨p1, p2, p3, p4, p5⟩, f2, f3⟩ := f0
 dsimp only at p2 p3 p4 p5 f2 f3 ⊢
 rw [hback] at p2 p3
 have hold : ∀ d2 : Dk, Same d1 d2 → Rel d2 C := fun d2 s => ⟨by rw [s.area, p3]; exact h.a, s.root.trans p2, h.rt⟩
 by_cases h1 : e1 = 0
 ·rw [if_pos h1]
  dsimp only
  obtain ⟨k1, k2, k3⟩ := f2 h1
  rcases write_or d1 ⟨3, 1 - C.root, []⟩ hr1 with ⟨q1, d3, q2, q3, q4⟩ | ⟨q1, q2, q3⟩
  ·rw [q1]
   simp only [if_true]
   obtain ⟨g1, g2, g3⟩ := done_root d3 (1 - C.root)
   refine ⟨⟨?_, ?_, by rw [p4]; exact hr1⟩, fun f => ⟨trivial, q4 (f3 (m0.2 f).2 (m0.2 f).1).2⟩, fun _ => ⟨by rw [k2]; rfl, by rw [k3]; show 0 + _ = _; omega⟩, fun q => absurd rfl q⟩
   ·have : areaOf (write d1 ⟨3, 1 - C.root, []⟩).1 N.root = areaOf d1 N.root := by
     rw [q3]
     unfold areaOf
     rw [g1, g2, q2.a0, q2.a1]
    rw [this, p4]; exact p5 h1
   ·rw [q3, g3, p4]
  ·simp only [if_neg q1]
   exact ⟨hold _ q2, fun f => absurd (f3 (m0.2 f).2 (m0.2 f).1).2 q3, fun q => absurd q q1, fun _ => trivial⟩
 ·rw [if_neg h1]
  exact ⟨hold _ ⟨rfl, rfl, rfl⟩, fun f => absurd (f3 (m0.2 f).2 (m0.2 f).1).1 h1, fun q => absurd q h1, fun _ => rfl⟩
end Go.VM
end
section
/- What is kept behind each call. -/
set_option maxRecDepth 100000
set_option linter.unusedVariables false
set_option linter.unusedSimpArgs false
namespace Go.VM
structure GoodC (C : CSt) : Prop where
 byte : ∀ e ∈ C.L, Byte e
 told : ∀ e ∈ C.L, e.live = true → e.v = e.k ++ e.k
 le : ∀ e ∈ C.L, e.last ≤ C.last
def ordK (L : List EZ) : List (List Nat) := (orderF L).map (keyL L)
def keysC (C : CSt) : List (List Nat) := keepK C.most C.bytes (ordK C.L)
theorem GoodC.toldO {C : CSt} (g : GoodC C) : ∀ y ∈ orderF C.L, Told C.L y := fun y hy => by
 obtain ⟨e, h1, h2⟩ := mem_order.1 hy
 exact ⟨e, h1, g.told e (List.mem_of_getElem? h1) h2⟩
theorem keysC_eq {C : CSt} (g : GoodC C) : (keptF C.L C.most C.bytes).map (keyL C.L) = keysC C := kept_keys g.toldO
theorem keptG_sub (L : List EZ) (most : Int) (ys : List Nat) (ks : List (List Nat)) (b : Int) (out : List Nat) : ∀ x ∈ keptG L most ys ks b out, x ∈ out ∨ x ∈ ys := (keptG_in L most ys ks b out).2
theorem kept_order {L : List EZ} {most bytes : Int} {x : Nat} (h : x ∈ keptF L most bytes) : x ∈ orderF L := by
 rcases keptG_sub L most (orderF L) [] bytes [] x h with h | h
 ·cases h
 ·exact h
theorem holdsG_pick {L : List EZ} : ∀ (is : List Nat), (∀ i ∈ is, ∃ e, L[i]? = some e ∧ e.live = true ∧ e.v = e.k ++ e.k) → holdsG (pickF L is) (is.map (keyL L)) = true
 | [], _ => rfl
 | i :: is, h => by
  obtain ⟨e, h1, h2, h3⟩ := h i (by simp)
  have hk : keyL L i = e.k := by unfold keyL; rw [h1]
  have hp : pickF L (i :: is) = e :: pickF L is := by simp [pickF, h1]
  rw [hp, List.map_cons, hk]
  simp only [holdsG, holdE, h2, h3, decide_true, Bool.true_and]
  exact holdsG_pick is (fun j hj => h j (by simp [hj]))
theorem holds_keys {C : CSt} (g : GoodC C) : holdsG (runP C.L C.most C.bytes) (keysC C) = true := by
 rw [← keysC_eq g]
 refine holdsG_pick _ (fun i hi => ?_)
 obtain ⟨e, h1, h2⟩ := mem_order.1 (kept_order hi)
 exact ⟨e, h1, h2, g.told e (List.mem_of_getElem? h1) h2⟩
theorem takeS_fits {most : Int} : ∀ {Q out : List (List Nat)} {b : Int} {x : List Nat}, x ∈ takeS most Q out b → (out.length : Int) < most ∧ ((3 * x.length : Nat) : Int) ≤ b
 | [], _, _, _, h => nomatch h
 | y :: Q, out, b, x, h => by
  unfold takeS at h
  split at h
  ·exact takeS_fits h
  ·split at h
   ·cases h
   ·rename_i h1 h2
    rcases List.mem_cons.1 h with h3 | h3
    ·subst h3; omega
    ·have := takeS_fits h3
     simp only [List.length_append, List.length_cons, List.length_nil] at this
     omega
theorem findK_some {L : List EZ} {k : List Nat} : ∀ {is : List Nat} {i : Nat}, findK L k is = some i → i ∈ is ∧ ∃ e, L[i]? = some e ∧ e.k = k
 | [], _, h => nomatch h
 | j :: is, i, h => by
  unfold findK at h
  split at h
  ·rename_i hj
   cases h
   unfold isK at hj
   split at hj
   ·rename_i e he
    exact ⟨by simp, e, he, of_decide_eq_true hj⟩
   ·cases hj
  ·have := findK_some h
   exact ⟨by simp [this.1], this.2⟩
theorem lastK_some {L : List EZ} {x : Nat} {e : EZ} (h : L[x]? = some e) : lastK L x = e.last := by unfold lastK; rw [h]
theorem order_set {L : List EZ} {i : Nat} {e : EZ} {la : Int} (he : L[i]? = some e) (hle : ∀ x ∈ L, x.last ≤ la) : orderF (setMark L i (la + 1)) = i :: (orderF L).erase i := by
 have hs : setMark L i (la + 1) = L.set i { e with live := true, last := la + 1 } := by unfold setMark; rw [he]
 have hil := (List.getElem?_eq_some_iff.1 he).1
 have hget : ∀ x, (L.set i { e with live := true, last := la + 1 })[x]? = if x = i then some { e with live := true, last := la + 1 } else L[x]? := by
  intro x
  rw [List.getElem?_set]
  by_cases hx : i = x
  ·subst hx; simp [hil]
  ·rw [if_neg hx, if_neg (fun q => hx q.symm)]
 rw [hs]
 have hnd := order_nodup L
 refine order_of (List.nodup_cons.2 ⟨fun h => ?_, hnd.erase i⟩) (fun x => ?_) (List.pairwise_cons.2 ⟨fun x hx => ?_, ?_⟩)
 ·exact (hnd.mem_erase_iff.1 h).1 rfl
 ·rw [hget, List.mem_cons, hnd.mem_erase_iff, mem_order]
  by_cases hx : x = i
  ·subst hx
   rw [if_pos rfl]
   exact ⟨fun _ => ⟨_, rfl, rfl⟩, fun _ => .inl rfl⟩
  ·rw [if_neg hx]
   exact ⟨fun h => by rcases h with h | h; exact absurd h hx; exact h.2, fun h => .inr ⟨hx, h⟩⟩
 ·obtain ⟨h1, h2⟩ := hnd.mem_erase_iff.1 hx
  obtain ⟨e', q1, q2⟩ := mem_order.1 h2
  left
  rw [lastK_some (e := { e with live := true, last := la + 1 }) (by rw [hget, if_pos rfl]), lastK_some (e := e') (by rw [hget, if_neg h1]; exact q1)]
  have := hle e' (List.mem_of_getElem? q1)
  show la + 1 > e'.last
  omega
 ·refine ((orderF_ok L).2.sublist (List.erase_sublist)).imp_of_mem (fun {x y} hx hy h => ?_)
  have h1 := (hnd.mem_erase_iff.1 hx).1
  have h2 := (hnd.mem_erase_iff.1 hy).1
  have k1 : lastK (L.set i { e with live := true, last := la + 1 }) x = lastK L x := by unfold lastK; rw [hget, if_neg h1]
  have k2 : lastK (L.set i { e with live := true, last := la + 1 }) y = lastK L y := by unfold lastK; rw [hget, if_neg h2]
  unfold Rk at h ⊢
  rw [k1, k2]; exact h
theorem keyL_set {L : List EZ} {i : Nat} {la : Int} (x : Nat) : keyL (setMark L i la) x = keyL L x := by
 unfold setMark
 cases he : L[i]? with
 | none => rfl
 | some e =>
  have hil := (List.getElem?_eq_some_iff.1 he).1
  unfold keyL
  show (match (L.set i _)[x]? with | some e => e.k | none => []) = _
  rw [List.getElem?_set]
  by_cases hx : i = x
  ·subst hx; rw [if_pos rfl, if_pos hil, he]
  ·rw [if_neg hx]; rfl
theorem ordK_touch {L : List EZ} {i : Nat} {e : EZ} {la : Int} (he : L[i]? = some e) (hlv : e.live = true) (hle : ∀ x ∈ L, x.last ≤ la) : ∃ A B, ordK L = A ++ e.k :: B ∧ ordK (setMark L i (la + 1)) = e.k :: (A ++ B) := by
 have hi : i ∈ orderF L := mem_order.2 ⟨e, he, hlv⟩
 have hk : keyL L i = e.k := by unfold keyL; rw [he]
 obtain ⟨A, B, h1, h2⟩ : ∃ A B, orderF L = A ++ i :: B ∧ (orderF L).erase i = A ++ B := by
  obtain ⟨A, B, q1, q2, q3⟩ := List.exists_erase_eq hi
  exact ⟨A, B, q2, q3⟩
 refine ⟨A.map (keyL L), B.map (keyL L), ?_, ?_⟩
 ·unfold ordK; rw [h1]; simp [hk]
 ·unfold ordK
  rw [order_set he hle, h2]
  have : keyL (setMark L i (la + 1)) = keyL L := funext fun x => keyL_set x
  rw [this]; simp [hk]
theorem order_more {L : List EZ} {k v : List Nat} : orderF (L ++ [(⟨k, v, false, 0⟩ : EZ)]) = orderF L := by
 refine order_of (order_nodup L) (fun x => ?_) ((orderF_ok L).2.imp_of_mem (fun {x y} hx hy h => ?_))
 ·rw [mem_order]
  constructor
  ·rintro ⟨e, h1, h2⟩
   exact ⟨e, by rw [List.getElem?_append_left (List.getElem?_eq_some_iff.1 h1).1]; exact h1, h2⟩
  ·rintro ⟨e, h1, h2⟩
   rw [List.getElem?_append] at h1
   split at h1
   ·exact ⟨e, h1, h2⟩
   ·have := List.mem_of_getElem? h1
    rw [List.mem_singleton.1 this] at h2; cases h2
 ·obtain ⟨e1, q1, _⟩ := mem_order.1 hx
  obtain ⟨e2, q2, _⟩ := mem_order.1 hy
  unfold Rk at h ⊢
  rw [lastK_some q1, lastK_some q2] at h
  rw [lastK_some (e := e1) (by rw [List.getElem?_append_left (List.getElem?_eq_some_iff.1 q1).1]; exact q1), lastK_some (e := e2) (by rw [List.getElem?_append_left (List.getElem?_eq_some_iff.1 q2).1]; exact q2)]
  exact h
theorem ordK_more {L : List EZ} {k v : List Nat} : ordK (L ++ [(⟨k, v, false, 0⟩ : EZ)]) = ordK L := by
 unfold ordK
 rw [order_more]
 refine List.map_congr_left (fun x hx => ?_)
 obtain ⟨e, q, _⟩ := mem_order.1 hx
 unfold keyL
 rw [List.getElem?_append_left (List.getElem?_eq_some_iff.1 q).1]
theorem ordK_new {L : List EZ} {k v : List Nat} {la : Int} (hle : ∀ x ∈ L, x.last ≤ la) (h0 : 0 ≤ la) : ordK (setMark (L ++ [⟨k, v, false, 0⟩]) L.length (la + 1)) = k :: ordK L := by
 have hget : (L ++ [(⟨k, v, false, 0⟩ : EZ)])[L.length]? = some ⟨k, v, false, 0⟩ := by simp
 have hle2 : ∀ x ∈ L ++ [(⟨k, v, false, 0⟩ : EZ)], x.last ≤ la := fun x hx => by
  rcases List.mem_append.1 hx with h | h
  ·exact hle x h
  ·rw [List.mem_singleton.1 h]; exact h0
 have hold : orderF (L ++ [(⟨k, v, false, 0⟩ : EZ)]) = orderF L := order_more
 have hnot : L.length ∉ orderF L := fun h => by
  obtain ⟨e, q, _⟩ := mem_order.1 h
  have := (List.getElem?_eq_some_iff.1 q).1
  omega
 unfold ordK
 rw [order_set hget hle2, hold, List.erase_of_not_mem hnot]
 have hkn : keyL (setMark (L ++ [⟨k, v, false, 0⟩]) L.length (la + 1)) = keyL (L ++ [⟨k, v, false, 0⟩]) := funext fun x => keyL_set x
 rw [hkn, List.map_cons]
 congr 1
 ·unfold keyL; rw [hget]
 ·refine List.map_congr_left (fun x hx => ?_)
  obtain ⟨e, q, _⟩ := mem_order.1 hx
  unfold keyL
  rw [List.getElem?_append_left (List.getElem?_eq_some_iff.1 q).1]
theorem mkL_get : ∀ (xs : List EZ) (la : Int) (j : Nat), (mkL la xs)[j]? = (xs[j]?).map (fun x => newE x (la + j + 1))
 | [], _, j => by simp [mkL]
 | x :: xs, la, 0 => by simp [mkL]
 | x :: xs, la, j + 1 => by
  simp only [mkL, List.getElem?_cons_succ]
  rw [mkL_get xs (la + 1) j]
  congr 1
  funext y
  congr 1
  push_cast; omega
theorem mkL_len : ∀ (xs : List EZ) (la : Int), (mkL la xs).length = xs.length
 | [], _ => rfl
 | x :: xs, la => by simp [mkL, mkL_len xs]
theorem ordK_mk (xs : List EZ) : ordK (mkL 0 xs) = (xs.map EZ.k).reverse := by
 have hget : ∀ (j : Nat) (e : EZ), xs[j]? = some e → (mkL 0 xs)[j]? = some (newE e (0 + (j : Int) + 1)) := fun j e h => by rw [mkL_get, h]; rfl
 have ho : orderF (mkL 0 xs) = (List.range xs.length).reverse := by
  refine order_of ((List.reverse_perm _).nodup_iff.2 List.nodup_range) (fun x => ?_) ?_
  ·rw [List.mem_reverse, List.mem_range]
   constructor
   ·intro h
    exact ⟨_, hget x _ (List.getElem?_eq_getElem h), rfl⟩
   ·rintro ⟨e, h, _⟩
    have := (List.getElem?_eq_some_iff.1 h).1
    rw [mkL_len] at this; exact this
  ·refine List.pairwise_reverse.2 ?_
   refine List.pairwise_lt_range.imp_of_mem (fun {a b} ha hb h => ?_)
   rw [List.mem_range] at ha hb
   left
   rw [lastK_some (hget b _ (List.getElem?_eq_getElem hb)), lastK_some (hget a _ (List.getElem?_eq_getElem ha))]
   show (0 : Int) + b + 1 > 0 + a + 1
   omega
 unfold ordK
 rw [ho, List.map_reverse]
 congr 1
 refine List.ext_getElem? (fun j => ?_)
 rw [List.getElem?_map, List.getElem?_map]
 rcases Nat.lt_or_ge j xs.length with h | h
 ·rw [List.getElem?_range h, List.getElem?_eq_getElem h]
  show some (keyL (mkL 0 xs) j) = some _
  unfold keyL
  rw [hget j _ (List.getElem?_eq_getElem h)]; rfl
 ·rw [List.getElem?_eq_none (by simpa using h), List.getElem?_eq_none h]; rfl
end Go.VM
end
section
/- What is kept behind each call: all of it. -/
set_option maxRecDepth 100000
set_option linter.unusedVariables false
set_option linter.unusedSimpArgs false
namespace Go.VM
theorem pickF_keys {L : List EZ} : ∀ (is : List Nat), (∀ i ∈ is, i < L.length) → (pickF L is).map EZ.k = is.map (keyL L)
 | [], _ => rfl
 | i :: is, h => by
  obtain ⟨e, he⟩ : ∃ e, L[i]? = some e := ⟨_, List.getElem?_eq_getElem (h i (by simp))⟩
  have hp : pickF L (i :: is) = e :: pickF L is := by simp [pickF, he]
  have hk : keyL L i = e.k := by unfold keyL; rw [he]
  rw [hp, List.map_cons, List.map_cons, hk, pickF_keys is (fun j hj => h j (by simp [hj]))]
theorem mkL_mem : ∀ {xs : List EZ} {la : Int} {e : EZ}, e ∈ mkL la xs → ∃ x ∈ xs, e.k = x.k ∧ e.v = x.v ∧ e.last ≤ la + xs.length
 | x :: xs, la, e, h => by
  rcases List.mem_cons.1 h with h | h
  ·exact ⟨x, by simp, by rw [h]; rfl, by rw [h]; rfl, by rw [h]; show la + 1 ≤ _; simp; omega⟩
  ·obtain ⟨y, h1, h2, h3, h4⟩ := mkL_mem h
   exact ⟨y, by simp [h1], h2, h3, by simp; omega⟩
theorem keptX_mem {C : CSt} {x : EZ} (h : x ∈ keptX C) : ∃ i : Nat, C.L[i]? = some x ∧ x.live = true := by
 obtain ⟨i, h1, h2⟩ := List.mem_filterMap.1 h
 obtain ⟨e, q1, q2⟩ := mem_order.1 (kept_order (List.mem_reverse.1 h1))
 rw [h2] at q1
 exact ⟨i, h2, by rw [Option.some.inj q1]; exact q2⟩
theorem comp_keys {d : Dk} {C : CSt} (h : Rel d C) (g : GoodC C) {x n z : Nat} (bud : Bud d C x n z) :
  Rel (compP d C).1 (compP d C).2.1 ∧ GoodC (compP d C).2.1 ∧ (Fine d → (compP d C).2.2 = 0 ∧ Fine (compP d C).1) ∧ keysC (compP d C).2.1 = keysC C := by
 obtain ⟨r1, r2, r3, r4⟩ := compP_rel h g.byte (by have := bud.L; omega)
 have st := compP_stp d C bud.sz bud.la0
 have hm := st.most
 have hb := st.bytes
 refine ⟨r1, ?_, r2, ?_⟩
 ·by_cases hz : (compP d C).2.2 = 0
  ·obtain ⟨q1, q2⟩ := r3 hz
   refine ⟨fun e he => ?_, fun e he hl => ?_, fun e he => ?_⟩
   ·rw [q1] at he
    obtain ⟨y, h1, h2, h3, h4⟩ := mkL_mem he
    obtain ⟨i, k1, k2⟩ := keptX_mem h1
    have := g.byte y (List.mem_of_getElem? k1)
    exact ⟨by rw [h2]; exact this.k, by rw [h3]; exact this.v, by rw [h2]; exact this.kl, by rw [h3]; exact this.vl⟩
   ·rw [q1] at he
    obtain ⟨y, h1, h2, h3, h4⟩ := mkL_mem he
    obtain ⟨i, k1, k2⟩ := keptX_mem h1
    rw [h2, h3]; exact g.told y (List.mem_of_getElem? k1) k2
   ·rw [q1] at he
    obtain ⟨y, h1, h2, h3, h4⟩ := mkL_mem he
    rw [q2]; omega
  ·rw [r4 hz]; exact g
 ·by_cases hz : (compP d C).2.2 = 0
  ·obtain ⟨q1, q2⟩ := r3 hz
   have e : ordK (compP d C).2.1.L = keysC C := by
    rw [q1, ordK_mk]
    unfold keptX
    rw [pickF_keys _ (fun i hi => keptF_mem (List.mem_reverse.1 hi)), List.map_reverse, List.reverse_reverse, keysC_eq g]
   show keepK (compP d C).2.1.most (compP d C).2.1.bytes (ordK (compP d C).2.1.L) = _
   rw [e, hm, hb]
   exact keep_again _ _ _
  ·rw [r4 hz]
theorem tidy_keys {d : Dk} {C : CSt} (h : Rel d C) (g : GoodC C) {x n z : Nat} (bud : Bud d C x n z) :
  Rel (tidyP d C).1 (tidyP d C).2.1 ∧ GoodC (tidyP d C).2.1 ∧ (Fine d → (tidyP d C).2.2 = 0 ∧ Fine (tidyP d C).1) ∧ keysC (tidyP d C).2.1 = keysC C := by
 unfold tidyP
 split
 ·exact comp_keys h g bud
 ·exact ⟨h, g, fun f => ⟨rfl, f⟩, rfl⟩
theorem touch_keys {d : Dk} {C : CSt} (h : Rel d C) (g : GoodC C) {x n z : Nat} (bud : Bud d C (x + 5) n (z + 1)) (kind i : Nat) (e : EZ) (hk : kind = 2 ∨ kind = 3) (he : C.L[i]? = some e) (hl : e.live = decide (kind = 3)) (hv : e.v = e.k ++ e.k) {K : List (List Nat)} (hK : keepK C.most C.bytes (ordK (setMark C.L i (C.last + 1))) = K) :
  Rel (touchP d C kind i).1 (touchP d C kind i).2.1 ∧ GoodC (touchP d C kind i).2.1 ∧ (Fine d → (touchP d C kind i).2.2 = 0 ∧ Fine (touchP d C kind i).1) ∧ ((touchP d C kind i).2.2 = 0 → keysC (touchP d C kind i).2.1 = K) ∧ (keysC (touchP d C kind i).2.1 = keysC C ∨ keysC (touchP d C kind i).2.1 = K) := by
 have hil := (List.getElem?_eq_some_iff.1 he).1
 obtain ⟨r1, r2, r3, r4⟩ := marksP_rel h kind i e hk (by have := bud.L; omega) he hl
 have st := marksP_stp d C kind i
 have bud2 := bud.stp st
 have hm := st.most
 have hb := st.bytes
 unfold touchP
 by_cases hz : (marksP d C kind i).2.2 = 0
 ·rw [if_pos hz]
  obtain ⟨q1, q2⟩ := r3 hz
  have g2 : GoodC (marksP d C kind i).2.1 := by
   have hset : ∀ e', e' ∈ setMark C.L i (C.last + 1) → e' ∈ C.L ∨ e' = { e with live := true, last := C.last + 1 } := by
    intro e' he'
    unfold setMark at he'
    rw [he] at he'
    exact List.mem_or_eq_of_mem_set he'
   have hge := g.byte e (List.mem_of_getElem? he)
   refine ⟨fun e' h' => ?_, fun e' h' hl' => ?_, fun e' h' => ?_⟩
   ·rw [q1] at h'
    rcases hset e' h' with k | k
    ·exact g.byte e' k
    ·rw [k]; exact ⟨hge.k, hge.v, hge.kl, hge.vl⟩
   ·rw [q1] at h'
    rcases hset e' h' with k | k
    ·exact g.told e' k hl'
    ·rw [k]; exact hv
   ·rw [q1] at h'
    rw [q2]
    rcases hset e' h' with k | k
    ·have := g.le e' k; omega
    ·rw [k]; exact Int.le_refl _
  obtain ⟨t1, t2, t3, t4⟩ := tidy_keys r1 g2 bud2
  have hkk : keysC (marksP d C kind i).2.1 = K := by
   show keepK (marksP d C kind i).2.1.most (marksP d C kind i).2.1.bytes (ordK (marksP d C kind i).2.1.L) = K
   rw [hm, hb, q1]; exact hK
  exact ⟨t1, t2, fun f => t3 (r2 f).2, fun _ => t4.trans hkk, .inr (t4.trans hkk)⟩
 ·rw [if_neg hz]
  have hC := r4 hz
  refine ⟨r1, by rw [hC]; exact g, fun f => absurd (r2 f).1 hz, fun q => absurd q hz, .inl (by rw [hC])⟩
theorem askF_fits {most bytes : Int} {ms : List (List Nat)} {k : List Nat} (h : most < 1 ∨ ((3 * k.length : Nat) : Int) > bytes) : askF most bytes ms k = ms := if_pos h
theorem asks_keys {d : Dk} {C : CSt} (h : Rel d C) (g : GoodC C) {x n z : Nat} (k : List Nat) (hk : k.length ≤ 333) (k8 : ∀ c ∈ k, c < 256) (bud : Bud d C (x + 2000) (n + 1) (z + 20)) (hm0 : 0 ≤ C.most) :
  Rel (asksP d C k).1 (asksP d C k).2.1 ∧ GoodC (asksP d C k).2.1 ∧ (Fine d → (asksP d C k).2.2 = 0 ∧ Fine (asksP d C k).1) ∧ ((asksP d C k).2.2 = 0 → keysC (asksP d C k).2.1 = askF C.most C.bytes (keysC C) k) ∧ (keysC (asksP d C k).2.1 = keysC C ∨ keysC (asksP d C k).2.1 = askF C.most C.bytes (keysC C) k) := by
 unfold asksP keptC'
 cases hf : findK C.L k (keptF C.L C.most C.bytes) with
 | some i =>
  obtain ⟨h1, e, he, hke⟩ := findK_some hf
  obtain ⟨e', he', hlv⟩ := mem_order.1 (kept_order h1)
  have : e' = e := Option.some.inj (he'.symm.trans he)
  subst this
  have hv := g.told e' (List.mem_of_getElem? he) hlv
  have hin : k ∈ keysC C := by
   rw [← keysC_eq g]
   exact List.mem_map.2 ⟨i, h1, by unfold keyL; rw [he]; exact hke⟩
  have hfit := takeS_fits (show k ∈ takeS C.most (ordK C.L) [] C.bytes from hin)
  have hm1 : ¬ C.most < 1 := by have := hfit.1; simp at this; omega
  have hb1 : ¬ ((3 * k.length : Nat) : Int) > C.bytes := by have := hfit.2; omega
  obtain ⟨A, B, a1, a2⟩ := ordK_touch he hlv g.le
  have hK : keepK C.most C.bytes (ordK (setMark C.L i (C.last + 1))) = askF C.most C.bytes (keysC C) k := by
   rw [a2, hke, keep_touch A B hm1 hb1, ← hke, ← a1, hke]
   exact keep_asked (ordK C.L) hm1 hb1
  obtain ⟨t1, t2, t3, t4, t5⟩ := touch_keys (x := x) (n := n) (z := z) h g (bud.mono) 3 i e' (.inr rfl) he hlv hv hK
  have hval : valAt C.L i = k ++ k := by unfold valAt; rw [he]; show e'.v = _; rw [hv, hke]
  dsimp only
  rw [if_pos hval]
  refine ⟨t1, t2, fun f => ⟨?_, (t3 f).2⟩, fun q => ?_, t5⟩
  ·rw [if_pos (t3 f).1]
  ·by_cases hz : (touchP d C 3 i).2.2 = 0
   ·exact t4 hz
   ·rw [if_neg hz] at q; exact absurd q hz
 | none =>
  dsimp only
  unfold putP
  by_cases hfc : fitsC C k (k ++ k)
  ·rw [if_pos hfc]
   obtain ⟨hm, hb⟩ := hfc
   rw [List.length_append] at hb
   have hm1 : ¬ C.most < 1 := by omega
   have hb1 : ¬ ((3 * k.length : Nat) : Int) > C.bytes := by omega
   have hel := entryB_len k (k ++ k)
   rw [List.length_append] at hel
   have hvl : (k ++ k).length ≤ 2147483647 := by rw [List.length_append]; omega
   have hv8 : ∀ c ∈ k ++ k, c < 256 := fun c hc => by rcases List.mem_append.1 hc with q | q <;> exact k8 c q
   obtain ⟨s1, s2, s3⟩ := storeC_rel h k (k ++ k) (by omega) hvl k8 hv8
   have st := addP_stp d C (entryB k (k ++ k))
   have budA := bud.stp st (by omega)
   have hL := (addP_L d C (entryB k (k ++ k))).1
   have hLa := (addP_L d C (entryB k (k ++ k))).2.1
   have hmo := st.most
   have hby := st.bytes
   generalize addP d C (entryB k (k ++ k)) = A at *
   obtain ⟨d1, C1, e1⟩ := A
   dsimp only at s1 s2 s3 budA hL hLa hmo hby ⊢
   by_cases hz : e1 = 0
   ·rw [if_pos hz]
    have hget : (storeC C1 k (k ++ k)).L[C1.L.length]? = some ⟨k, k ++ k, false, 0⟩ := by simp [storeC, putN]
    have g2 : GoodC (storeC C1 k (k ++ k)) := by
     have hmem : ∀ e', e' ∈ (storeC C1 k (k ++ k)).L → e' ∈ C.L ∨ e' = ⟨k, k ++ k, false, 0⟩ := fun e' he' => by
      have he' : e' ∈ C1.L ++ [⟨k, k ++ k, false, 0⟩] := he'
      rw [hL] at he'
      rcases List.mem_append.1 he' with q | q
      ·exact .inl q
      ·exact .inr (List.mem_singleton.1 q)
     refine ⟨fun e' he' => ?_, fun e' he' hl' => ?_, fun e' he' => ?_⟩
     ·rcases hmem e' he' with q | q
      ·exact g.byte e' q
      ·rw [q]; exact ⟨k8, hv8, by show k.length ≤ _; omega, hvl⟩
     ·rcases hmem e' he' with q | q
      ·exact g.told e' q hl'
      ·rw [q] at hl'; cases hl'
     ·show e'.last ≤ C1.last
      rw [hLa]
      rcases hmem e' he' with q | q
      ·exact g.le e' q
      ·rw [q]; exact bud.la0
    have bud2 : Bud d1 (storeC C1 k (k ++ k)) (x + 5) n (z + 1) := (budA.stp (putN_stp d1 C1 ⟨k, k ++ k, false, 0⟩ (by show k.length + (k ++ k).length ≤ 1000; rw [List.length_append]; omega))).mono (by omega) (by omega) (by omega)
    have hK : keepK (storeC C1 k (k ++ k)).most (storeC C1 k (k ++ k)).bytes (ordK (setMark (storeC C1 k (k ++ k)).L C1.L.length ((storeC C1 k (k ++ k)).last + 1))) = askF C.most C.bytes (keysC C) k := by
     show keepK C1.most C1.bytes (ordK (setMark (C1.L ++ [⟨k, k ++ k, false, 0⟩]) C1.L.length (C1.last + 1))) = _
     rw [hmo, hby, hL, hLa, ordK_new g.le bud.la0]
     exact keep_asked (ordK C.L) hm1 hb1
    obtain ⟨t1, t2, t3, t4, t5⟩ := touch_keys (s1 hz) g2 bud2 2 C1.L.length _ (.inl rfl) hget rfl rfl hK
    have hold : keysC (storeC C1 k (k ++ k)) = keysC C := by
     show keepK C1.most C1.bytes (ordK (C1.L ++ [⟨k, k ++ k, false, 0⟩])) = _
     rw [hmo, hby, hL, ordK_more]; rfl
    rw [hold] at t5
    exact ⟨t1, t2, fun f => t3 (s3 f).2, t4, t5⟩
   ·rw [if_neg hz]
    obtain ⟨p1, p2⟩ := s2 hz
    refine ⟨p1, by rw [p2]; exact g, fun f => absurd (s3 f).1 hz, fun q => absurd q hz, .inl (by rw [p2])⟩
  ·rw [if_neg hfc]
   have hno : C.most < 1 ∨ ((3 * k.length : Nat) : Int) > C.bytes := by
    by_cases hm : C.most = 0
    ·left; omega
    ·right
     have : ¬ ((k.length + (k ++ k).length : Nat) : Int) ≤ C.bytes := fun q => hfc ⟨hm, q⟩
     rw [List.length_append] at this
     omega
   exact ⟨h, g, fun f => ⟨rfl, f⟩, fun _ => (askF_fits hno).symm, .inl rfl⟩
end Go.VM
end
section
/- A disk and its cache in memory: calls. -/
set_option maxRecDepth 100000
set_option linter.unusedVariables false
set_option linter.unusedSimpArgs false
namespace Go.VM
open Go.RowKit
structure At (nx c r : Nat) : Prop where
 c0 : 1002 ≤ c
 r0 : 1002 ≤ r
 cr : c ≠ r
 cn : c < nx
 rn : r < nx
theorem OO_get {d : Dk} {C : CSt} {c r : Nat} (k : Nat) : og (OO d C c r) k = if k = 1000 then some (.cells false (encD d 1001)) else if k = 1001 then some (.tok d.ws.length) else if k = r then some (rowO C.L) else if k = c then some (.cells false (encC 1000 r C)) else none := by
 simp only [OO, PO, List.cons_append, List.nil_append, og_cons]; rfl
theorem At.hc {nx c r : Nat} {d : Dk} {C : CSt} {lc : LM} (a : At nx c r) : HC ⟨nx, og (OO d C c r), lc⟩ 1000 1001 c r d C := by
 obtain ⟨h1, h2, h3, h4, h5⟩ := a
 refine ⟨by decide, by decide, (by show 1000 ≤ c; omega), (by show 1000 ≤ r; omega), by simp; omega, rfl, rfl, ?_, ?_⟩
 ·show og _ c = _
  rw [OO_get, if_neg (by omega), if_neg (by omega), if_neg h3, if_pos rfl]
 ·show og _ r = _
  rw [OO_get, if_neg (by omega), if_neg (by omega), if_pos rfl]
theorem hcq_At {d d' : Dk} {C C' : CSt} {c r nx rr n : Nat} {lc : LM} (a : At nx c r) (hrr : rr = r ∨ (nx ≤ rr ∧ rr < nx + n)) : hcq ⟨nx, og (OO d C c r), lc⟩ 1000 1001 c r d' C' rr n = ⟨nx + n, og (OO d' C' c rr), lc⟩ := by
 obtain ⟨h1, h2, h3, h4, h5⟩ := a
 unfold hcq
 congr 1
 funext k
 show (if k = rr then some (rowO C'.L) else if k = c then some (.cells false (encC 1000 rr C')) else if k = 1001 then some (.tok d'.ws.length) else if k = 1000 then some (.cells false (encD d' 1001)) else if k = r ∨ (nx ≤ k ∧ k < nx + n) then none else og (OO d C c r) k) = og (OO d' C' c rr) k
 rw [OO_get, OO_get]
 by_cases k0 : k = 1000
 ·subst k0; rw [if_neg (by omega), if_neg (by omega)]; rfl
 by_cases k1 : k = 1001
 ·subst k1; rw [if_neg (by omega), if_neg (by omega)]; rfl
 rw [if_neg k0, if_neg k1, if_neg k0, if_neg k1, if_neg k0, if_neg k1]
 by_cases k3 : k = rr
 ·rw [if_pos k3, if_pos k3]
 ·rw [if_neg k3, if_neg k3]
  by_cases k2 : k = c
  ·rw [if_pos k2, if_pos k2]
  ·rw [if_neg k2, if_neg k2, if_neg k2]
   by_cases k4 : k = r
   ·rw [if_pos (.inl k4)]
   ·rw [if_neg k4]
    by_cases k5 : nx ≤ k ∧ k < nx + n
    ·rw [if_pos (.inr k5)]
    ·rw [if_neg (fun e => by rcases e with e | e; exact k4 e; exact k5 e)]
def asksRow (nx r : Nat) (d : Dk) (C : CSt) (k : List Nat) : Nat := if asksR d C k = 1003 then r else nx + (asksR d C k - 1004)
theorem asks_at {nx c r : Nat} {d : Dk} {C : CSt} {lc : LM} (a : At nx c r) (k : List Nat) (hk : k.length ≤ 333) (bud : Bud d C 2000 1 20) :
  SCall Go.Proofs.Try.prog [] 19 [.ptr c 0, .str k] none ⟨nx, og (OO d C c r), lc⟩ (.ret (.int .i64 (asksP d C k).2.2)) none ⟨nx + asksN d C k, og (OO (asksP d C k).1 (asksP d C k).2.1 c (asksRow nx r d C k)), lc⟩ ∧ At (nx + asksN d C k) c (asksRow nx r d C k) := by
 have hR := asksR_ok d C k
 have := cache_liftR (asks_core k hk bud) hR.1 hR.2 (by exact ⟨trivial, trivial⟩) trivial (a.hc (d := d) (C := C) (lc := lc)) (by show 1000 < nx; have := a.c0; have := a.cn; omega) (by show 1001 < nx; have := a.c0; have := a.cn; omega) a.cn a.rn
 have e : rowAtR ⟨nx, og (OO d C c r), lc⟩ r (asksR d C k) = asksRow nx r d C k := rfl
 have hq : asksRow nx r d C k = r ∨ (nx ≤ asksRow nx r d C k ∧ asksRow nx r d C k < nx + asksN d C k) := by
  unfold asksRow
  split
  ·exact .inl rfl
  ·right; omega
 rw [e, hcq_At a hq] at this
 obtain ⟨h1, h2, h3, h4, h5⟩ := a
 exact ⟨this, by omega, by omega, by omega, by omega, by omega⟩
theorem holds_at {nx c r : Nat} {d : Dk} {C : CSt} {lc : LM} (a : At nx c r) (cf : CFit C) (ms : List (List Nat)) (most bytes : Int) (hms : ms.length ≤ 1000000) (hxs : ∀ x ∈ ms, x.length ≤ 1000000) :
  SCall Go.Proofs.Try.prog [] 21 [modV ms most bytes, .ptr c 0] none ⟨nx, og (OO d C c r), lc⟩ (.ret (.bool (holdsG (runP C.L C.most C.bytes) ms))) none ⟨nx, og (OO d C c r), lc⟩ := by
 obtain ⟨hb, ht, hc, hr, nd, ob, tk, cc, row⟩ := a.hc (d := d) (C := C) (lc := lc)
 have e0 : ρL [1000, 1001, c, r] nx 1000 = 1000 := ρL_at (i := 0) rfl
 have e1 : ρL [1000, 1001, c, r] nx 1001 = 1001 := ρL_at (i := 1) rfl
 have e2 : ρL [1000, 1001, c, r] nx 1002 = c := ρL_at (i := 2) rfl
 have e3 : ρL [1000, 1001, c, r] nx 1003 = r := ρL_at (i := 3) rfl
 have hobj : ∀ (i : Nat) (z : Nat) (o : Obj), [1000, 1001, c, r][i]? = some z → og (CO d C 1003) (glim + i) = some o → og (OO d C c r) z = some (o.ren (ρL [1000, 1001, c, r] nx)) := by
  intro i z o hi ho
  match i, hi with
  | 0, hi => cases hi; cases ho; simp only [Obj.ren, encD_ren, e1]; exact ob
  | 1, hi => cases hi; cases ho; exact tk
  | 2, hi => cases hi; cases ho; simp only [Obj.ren, encC_ren, e0, e3]; exact cc
  | 3, hi => cases hi; cases ho; rw [rowO_ren]; exact row
 refine SCall.frameL (n := 0) [1000, 1001, c, r] rfl (holds_core d C cf ms most bytes hms hxs) nd (by simp [hb, ht, hc, hr]) (fun i => CO_some i) rfl hobj (CO_in (by show 1003 < glim + 4; decide) (by decide)) ⟨modV_in _ _ _, (by show 1002 < glim + 4; decide), trivial⟩ trivial (CO_in (by show 1003 < glim + 4; decide) (by decide)) ?_ rfl rfl rfl (fun i hi => ?_) (fun z hz => rfl)
 ·show [(modV ms most bytes).ren _, V.ptr (ρL [1000, 1001, c, r] nx 1002) 0] = _
  rw [e2, V.ren_id (fun i hi => ρL_low hi) (modV_in (D := (· < glim)) ms most bytes)]
 ·have hi : i < 4 := hi
  show og (OO d C c r) (ρL [1000, 1001, c, r] nx (glim + i)) = _
  obtain ⟨o, ho⟩ : ∃ o, og (CO d C 1003) (glim + i) = some o := Option.isSome_iff_exists.1 ((CO_some (d := d) (C := C) (glim + i)).2 (by show 1000 ≤ 1000 + i ∧ 1000 + i < 1004; omega))
  rw [ho]
  obtain ⟨z, hz⟩ : ∃ z, [1000, 1001, c, r][i]? = some z := ⟨_, List.getElem?_eq_getElem (by simpa using hi)⟩
  rw [ρL_at hz]
  exact hobj i z o hz ho
end Go.VM
end
section
/- A disk and its cache in memory: it is opened anew. -/
set_option maxRecDepth 100000
set_option linter.unusedVariables false
set_option linter.unusedSimpArgs false
namespace Go.VM
open Go.RowKit
theorem Rch.lasts {b : List Nat} {a : Nat} {s : Sc} (h : Rch b a s) : (∀ e ∈ s.l, e.last ≤ s.last) ∧ (s.last = 0 ∨ ∃ e ∈ s.l, e.last = s.last) := by
 induction h with
 | z => exact ⟨fun e he => (by cases he), .inl rfl⟩
 | s h hk hr ha ih =>
  obtain ⟨i1, i2⟩ := ih
  unfold addF at ha
  split at ha
  ·cases ha
   refine ⟨fun e he => ?_, ?_⟩
   ·rcases List.mem_append.1 he with q | q
    ·exact i1 e q
    ·rw [List.mem_singleton.1 q]; exact Nat.zero_le _
   ·rcases i2 with q | ⟨e, q1, q2⟩
    ·exact .inl q
    ·exact .inr ⟨e, List.mem_append.2 (.inl q1), q2⟩
  ·split at ha
   ·cases ha
   ·rename_i e1 he1
    split at ha
    ·cases ha
     have hlt := (List.getElem?_eq_some_iff.1 he1).1
     refine ⟨fun e he => ?_, .inr ⟨_, List.mem_set hlt _, rfl⟩⟩
     rcases List.mem_or_eq_of_mem_set he with q | q
     ·have := i1 e q; simp only; omega
     ·rw [q]; exact Nat.le_refl _
    ·cases ha
theorem maxL_eq : ∀ (l : List EZ) (m M : Int), (∀ e ∈ l, e.last ≤ M) → m ≤ M → (m = M ∨ ∃ e ∈ l, e.last = M) → maxL l m = M
 | [], m, M, _, _, h => by
  rcases h with h | ⟨e, he, _⟩
  ·exact h
  ·cases he
 | e :: l, m, M, h1, h2, h3 => by
  unfold maxL
  have he := h1 e (by simp)
  refine maxL_eq l _ M (fun x hx => h1 x (by simp [hx])) (by split <;> omega) ?_
  rcases h3 with h | ⟨x, hx, hl⟩
  ·left; rw [if_neg (by omega)]; exact h
  ·rcases List.mem_cons.1 hx with q | q
   ·subst q
    left
    split <;> omega
   ·exact .inr ⟨x, q, hl⟩
theorem rel_open {d : Dk} {C : CSt} (h : Rel d C) : scL d = C.L ∧ diskC d C.most C.bytes = C ∧ (scanR (areaD d)).1.good = (areaD d).length ∧ (∀ x ∈ areaD d, x < 256) ∧ (areaD d).length = C.len := by
 obtain ⟨⟨⟨s, h1, h2, h3⟩, h4, h5⟩, h6, h7⟩ := h
 have ea : areaD d = areaOf d C.root := by rw [areaD_of, h6]
 rw [← ea] at h1 h4 h5
 have hs := h1.whole h5
 have hL : scL d = C.L := by unfold scL; rw [hs]; exact h2
 refine ⟨hL, ?_, ?_, h5, h4.symm⟩
 ·unfold diskC opC
  rw [hL]
  obtain ⟨q1, q2⟩ := h1.lasts
  have hm : maxL C.L 0 = C.last := by
   refine maxL_eq _ _ _ (fun e he => ?_) (by omega) ?_
   ·rw [← h2] at he
    obtain ⟨e0, k1, rfl⟩ := List.mem_map.1 he
    have := q1 e0 k1
    show (e0.last : Int) ≤ _; omega
   ·rcases q2 with q | ⟨e0, k1, k2⟩
    ·left; omega
    ·right
     refine ⟨toZ e0, ?_, ?_⟩
     ·rw [← h2]; exact List.mem_map.2 ⟨e0, k1, rfl⟩
     ·show (e0.last : Int) = _; omega
  rw [hm, h6, ← h4]
 ·rw [hs]; exact h1.good
theorem OO_ren {ρ : Nat → Nat} {C : CSt} {r : Nat} : (Obj.cells false (encC 1000 r C)).ren ρ = .cells false (encC (ρ 1000) (ρ r) C) := by simp only [Obj.ren, encC_ren]
def opQ (C : CSt) : Nat := 7 + (C.L.length - 1)
theorem open_at {nx : Nat} {d : Dk} {C : CSt} {lc : LM} (hx : 1002 ≤ nx) (h : Rel d C) (f : d.off = false) {x n z : Nat} (bud : Bud d C x n z) (hm : 0 ≤ C.most) (hb : 0 ≤ C.bytes) :
  SCall Go.Proofs.Try.prog [] 18 [.ptr 1000 0, .int .i64 C.most, .int .i64 C.bytes] none ⟨nx, og (dol d), lc⟩ (.ret (.tup [.ptr (nx + opQ C + 1) 0, .int .i64 0])) none ⟨nx + (opQ C + 2), og (OO d C (nx + opQ C + 1) (nx + opQ C)), lc⟩ ∧ At (nx + (opQ C + 2)) (nx + opQ C + 1) (nx + opQ C) := by
 obtain ⟨h1, h2, h3, h4, h5⟩ := rel_open h
 have core := open_core (d := d) (most := C.most) (bytes := C.bytes) f (by rw [h.root]; exact h.rt) hm hb (by rw [h2]; exact bud.comp) (by have := bud.len; omega) h4 (by omega)
 rw [h1, h2, h3] at core
 have e1 : opP d C (areaD d).length (areaD d).length = (d, C, 0) := if_neg (by omega)
 have e2 : opN C (areaD d).length (areaD d).length = 0 := if_neg (by omega)
 have e3 : ∀ c r, opR d C (areaD d).length (areaD d).length c r = r := fun c r => if_neg (by omega)
 rw [e1, e2, e3] at core
 have hq : opRow C.L = 1002 + opQ C := by unfold opRow opQ; omega
 rw [hq] at core
 have core : SCall Go.Proofs.Try.prog [] 18 [.ptr 1000 0, .int .i64 C.most, .int .i64 C.bytes] none ⟨1002, og (dol d), []⟩ (.ret (.tup [.ptr (1002 + opQ C + 1) 0, .int .i64 0])) none ⟨1002 + opQ C + 1 + 1, og (OO d C (1002 + opQ C + 1) (1002 + opQ C)), []⟩ := core
 refine ⟨?_, ⟨by omega, by omega, by omega, by omega, by omega⟩⟩
 generalize opQ C = q at core ⊢
 have r0 : ρL [1000, 1001] nx 1000 = 1000 := ρL_at (i := 0) rfl
 have r1 : ρL [1000, 1001] nx 1001 = 1001 := ρL_at (i := 1) rfl
 have rn : ∀ j, ρL [1000, 1001] nx (1002 + j) = nx + j := fun j => (ρL_new (bs := [1000, 1001]) (by show 1000 + 2 ≤ 1002 + j; omega)).trans (by show nx + (1002 + j - (1000 + 2)) = _; omega)
 refine SCall.frameL (n := q + 2) [1000, 1001] rfl core (by decide) (by decide) (fun i => ?_) (OO_B (by omega) (by show 1002 + q < 1002 + (q + 2); omega) (by omega) (by show 1002 + q + 1 < 1002 + (q + 2); omega)) (fun i z o hi ho => ?_) (by exact dol_in d) ⟨(by show 1000 < glim + 2; decide), trivial, trivial, trivial⟩ ⟨(by show 1002 + q + 1 < 1002 + (q + 2); omega), trivial, trivial⟩ (OO_in (by omega) (by show 1002 + q < 1002 + (q + 2); omega)) ?_ ?_ rfl rfl (fun i hi => ?_) (fun z hz => ?_)
 ·simp only [dol, og_cons]
  show _ ↔ 1000 ≤ i ∧ i < 1002
  split
  ·simp; omega
  ·split
   ·simp; omega
   ·simp [og]; omega
 ·match i, hi with
  | 0, hi => cases hi; cases ho; simp only [Obj.ren, encD_ren, r1]; rfl
  | 1, hi => cases hi; cases ho; rfl
 ·show [V.ptr (ρL [1000, 1001] nx 1000) 0, _, _] = _
  rw [r0]; rfl
 ·show V.tup [V.ptr (ρL [1000, 1001] nx (1002 + q + 1)) 0, _] = _
  rw [show 1002 + q + 1 = 1002 + (q + 1) by omega, rn]; rfl
 ·show og (OO d C (nx + q + 1) (nx + q)) (ρL [1000, 1001] nx (1000 + i)) = (og (OO d C (1002 + q + 1) (1002 + q)) (1000 + i)).map _
  have hi : i < 2 + (q + 2) := hi
  by_cases i0 : i = 0
  ·subst i0
   rw [show 1000 + 0 = 1000 from rfl, r0, OO_get, OO_get]
   show _ = some (Obj.cells false (rens _ (encD d 1001)))
   rw [encD_ren, r1]; rfl
  by_cases i1 : i = 1
  ·subst i1
   rw [show 1000 + 1 = 1001 from rfl, r1, OO_get, OO_get]; rfl
  obtain ⟨j, rfl⟩ : ∃ j, i = j + 2 := ⟨i - 2, by omega⟩
  rw [show 1000 + (j + 2) = 1002 + j by omega, rn]
  have l1 : ∀ (k c r : Nat), 1002 ≤ k → og (OO d C c r) k = if k = r then some (rowO C.L) else if k = c then some (.cells false (encC 1000 r C)) else none := fun k c r hk => by
   rw [OO_get, if_neg (by omega), if_neg (by omega)]
  rw [l1 _ _ _ (by omega), l1 _ _ _ (by omega)]
  by_cases j0 : j = q
  ·subst j0
   rw [if_pos rfl, if_pos rfl]
   show _ = some ((rowO C.L).ren _)
   rw [rowO_ren]
  ·rw [if_neg (show ¬ nx + j = nx + q by omega), if_neg (show ¬ 1002 + j = 1002 + q by omega)]
   by_cases j1 : j = q + 1
   ·subst j1
    rw [if_pos (show nx + (q + 1) = nx + q + 1 by omega), if_pos (show 1002 + (q + 1) = 1002 + q + 1 by omega)]
    show _ = some ((Obj.cells false (encC 1000 (1002 + q) C)).ren _)
    rw [OO_ren, r0, rn]
   ·rw [if_neg (show ¬ nx + j = nx + q + 1 by omega), if_neg (show ¬ 1002 + j = 1002 + q + 1 by omega)]; rfl
 ·show og (OO d C (nx + q + 1) (nx + q)) z = og (dol d) z
  have hz : ∀ i, i < 2 + (q + 2) → ρL [1000, 1001] nx (1000 + i) ≠ z := hz
  have z2 : nx + q ≠ z := by
   have := hz (q + 2) (by omega)
   rw [show 1000 + (q + 2) = 1002 + q by omega, rn] at this
   exact this
  have z3 : nx + q + 1 ≠ z := by
   have := hz (q + 3) (by omega)
   rw [show 1000 + (q + 3) = 1002 + (q + 1) by omega, rn] at this
   omega
  rw [OO_get]
  simp only [dol, og_cons]
  by_cases k0 : z = 1000
  ·rw [if_pos k0, if_pos k0]
  by_cases k1 : z = 1001
  ·rw [if_neg k0, if_pos k1, if_neg k0, if_pos k1]
  rw [if_neg k0, if_neg k1, if_neg k0, if_neg k1, if_neg (fun e => z2 e.symm), if_neg (fun e => z3 e.symm)]; rfl
end Go.VM
end
section
/- CachefileLasts: the pieces of the walk. -/
set_option maxRecDepth 100000
set_option linter.unusedVariables false
set_option linter.unusedSimpArgs false
namespace Go.VM
open Go.RowKit
theorem kill_OO {fr : Fr} {tm : TM} {df : List AD} {u : Option AMode} {nx c r : Nat} {d : Dk} {C : CSt} {lc : LM} {t : Nat} (a : At nx c r) (ht : tg tm t = some (.v (.ptr c 0))) : SW [] fr (SL.toS ⟨tm, df, u, nx, OO d C c r, lc⟩) (SL.toS ⟨tm, df, u, nx, dol d, lc⟩) := by
 obtain ⟨h1, h2, h3, h4, h5⟩ := a
 have hoc : og (OO d C c r) c = some (.cells false (encC 1000 r C)) := by rw [OO_get, if_neg (by omega), if_neg (by omega), if_neg h3, if_pos rfl]
 have hor : og (OO d C c r) r = some (rowO C.L) := by rw [OO_get, if_neg (by omega), if_neg (by omega), if_pos rfl]
 have l1 : Live [] fr (SL.toS ⟨tm, df, u, nx, OO d C c r, lc⟩) c := live_slot ht
 have s1 : SW [] fr (SL.toS ⟨tm, df, u, nx, OO d C c r, lc⟩) { (SL.toS ⟨tm, df, u, nx, OO d C c r, lc⟩) with h := (SL.toS ⟨tm, df, u, nx, OO d C c r, lc⟩).h.kill r } := by
  by_cases hne : C.L = []
  ·exact SW.killTok (n := 0) (show og (OO d C c r) r = some (.tok 0) by rw [hor, hne]; rfl)
  ·have l2 := live_cell (i := 5) (N := r) l1 hoc rfl (fun E x q => by
    rw [clV_some hne] at q
    exact ar_sl (List.length_pos_iff.2 hne) q)
   exact SW.killLive l2
 refine s1.trans ?_
 have l3 : Live [] fr { (SL.toS ⟨tm, df, u, nx, OO d C c r, lc⟩) with h := (SL.toS ⟨tm, df, u, nx, OO d C c r, lc⟩).h.kill r } c := live_slot (s := { (SL.toS ⟨tm, df, u, nx, OO d C c r, lc⟩) with h := (SL.toS ⟨tm, df, u, nx, OO d C c r, lc⟩).h.kill r }) ht
 have s2 := SW.killLive l3
 have e : (((⟨nx, og (OO d C c r), lc⟩ : H).kill r).kill c) = ⟨nx, og (dol d), lc⟩ := by
  simp only [H.kill]
  congr 1
  funext k
  rw [OO_get]
  simp only [dol, og_cons]
  by_cases k0 : k = 1000
  ·rw [if_neg (by omega), if_neg (by omega), if_pos k0, if_pos k0]
  by_cases k1 : k = 1001
  ·rw [if_neg (by omega), if_neg (by omega), if_neg k0, if_pos k1, if_neg k0, if_pos k1]
  rw [if_neg k0, if_neg k1, if_neg k0, if_neg k1]
  by_cases kc : k = c
  ·rw [if_pos kc]; rfl
  ·rw [if_neg kc]
   by_cases kr : k = r
   ·rw [if_pos kr]; rfl
   ·rw [if_neg kr, if_neg kr, if_neg kc]; rfl
 have e2 : ({ ({ (SL.toS ⟨tm, df, u, nx, OO d C c r, lc⟩) with h := (SL.toS ⟨tm, df, u, nx, OO d C c r, lc⟩).h.kill r } : S) with h := ((SL.toS ⟨tm, df, u, nx, OO d C c r, lc⟩).h.kill r).kill c } : S) = SL.toS ⟨tm, df, u, nx, dol d, lc⟩ := congrArg (fun h : H => S.mk tm df u h) e
 rw [← e2]
 exact s2
theorem nd_dol {lc : LM} (d : Dk) : nd ⟨1000, og [], lc⟩ d = ⟨1002, og (dol d), lc⟩ := by
 unfold nd
 rw [og_new, og_new]; rfl
theorem rem_nat2 {nt : Nat} {tm : TM} {h : H} {x y : RX} {k : IntKind} {a m : Nat} (hx : rv [] tm x = some (.int k a)) (hy : rv [] tm y = some (.int k ((m + 1 : Nat) : Int))) :
  LightR Go.Proofs.Try.prog [] nt tm h (some (.bin .rem x y)) (.v (.int k ((a % (m + 1) : Nat) : Int))) := by
 refine lightX_sound ?_
 simp only [lightX, rl, hx, hy]
 have : ¬ (((m + 1 : Nat) : Int) = 0) := by omega
 simp only [abin, if_true, if_neg this]
 rfl
theorem asks_stp {d : Dk} {C : CSt} (k : List Nat) (hk : k.length ≤ 333) {x n z : Nat} (bud : Bud d C (x + 3400000) (n + 1) (z + 7000)) : Bud (asksP d C k).1 (asksP d C k).2.1 x n z ∧ (asksP d C k).2.1.most = C.most ∧ (asksP d C k).2.1.bytes = C.bytes := by
 have hL := bud.L
 have touch : ∀ (d1 : Dk) (C1 : CSt) (kind i : Nat) (x1 z1 : Nat), Bud d1 C1 (x1 + 3390000) n (z1 + 6900) → Bud (touchP d1 C1 kind i).1 (touchP d1 C1 kind i).2.1 x1 n z1 ∧ (touchP d1 C1 kind i).2.1.most = C1.most ∧ (touchP d1 C1 kind i).2.1.bytes = C1.bytes := by
  intro d1 C1 kind i x1 z1 b1
  have s1 := marksP_stp d1 C1 kind i
  have b2 := b1.stp s1
  unfold touchP
  split
  ·have s2 := tidyP_stp (marksP d1 C1 kind i).1 (marksP d1 C1 kind i).2.1 b2.sz b2.la0
   have hl2 := b2.L
   have b3 := b2.stp s2 (by omega) (by omega) (by omega)
   exact ⟨b3.mono (by omega) (by omega) (by omega), s2.most.trans s1.most, s2.bytes.trans s1.bytes⟩
  ·exact ⟨b2.mono (by omega) (by omega) (by omega), s1.most, s1.bytes⟩
 unfold asksP
 split
 ·have hel := entryB_len k (k ++ k)
  rw [List.length_append] at hel
  unfold putP
  split
  ·have s1 := addP_stp d C (entryB k (k ++ k))
   have b2 := bud.stp s1 (by omega)
   split
   ·have s2 := putN_stp (addP d C (entryB k (k ++ k))).1 (addP d C (entryB k (k ++ k))).2.1 ⟨k, k ++ k, false, 0⟩ (by show k.length + (k ++ k).length ≤ 1000; rw [List.length_append]; omega)
    have b3 := b2.stp s2
    obtain ⟨q1, q2, q3⟩ := touch _ (storeC (addP d C (entryB k (k ++ k))).2.1 k (k ++ k)) 2 (addP d C (entryB k (k ++ k))).2.1.L.length x z (b3.mono (by omega) (by omega) (by omega))
    exact ⟨q1, q2.trans s1.most, q3.trans s1.bytes⟩
   ·exact ⟨b2.mono (by omega) (by omega) (by omega), s1.most, s1.bytes⟩
  ·exact ⟨bud.mono, rfl, rfl⟩
 ·exact touch d C 3 _ x z (bud.mono)
end Go.VM
end
