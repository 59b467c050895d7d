/-
  topic.Match of the program.
-/
import Derived.Test.YtffkmcohbdgnbaaDoorParse
namespace Go.Proofs.YtffkmcohbdgnbaaDoor
open Go Go.RowKit Go.Shelf Go.Lib
attribute [local go_sem] Oper.semAt_some

def matchFrom (n : List (List UInt8)) (last : Nat) : Nat → List (List UInt8) → Bool
  | i, [] => i == n.length
  | i, f :: fs => if f = [35] ∧ i = last then true else if n.length ≤ i ∨ (f ≠ [43] ∧ f ≠ n.getD i []) then false else matchFrom n last (i + 1) fs

/-- topic.Match. -/
def matchB (filter name : List UInt8) : Bool := matchFrom (parts name) (countByte filter 47) 0 (parts filter)

/-- Between two rounds: R the result's box, N the name's parts' (a slice in block g), L the last place's, I the place's. -/
structure MatchAt (w : World) (R N L I g : Nat) (cur : Array Value) (len cap last k : Nat) (b : Bool) (W : World) : Prop where
  res : Boxed W R 4 (.bool b)
  bn : Boxed W N 36 (.slice (some ⟨g, 0, none⟩) len cap)
  bl : Boxed W L 3 (.int .i64 last)
  bi : Boxed W I 3 (.int .i64 k)
  row : W.heap[g]? = some (.cells cur 9 (0, 0))
  below : Below w.heap.size w W

theorem MatchAt.kept {w : World} {R N L I g : Nat} {cur : Array Value} {len cap last k : Nat} {b : Bool} {W W' : World} {row : Option Nat} (h : MatchAt w R N L I g cur len cap last k b W) (hg : W.grownBy W' row)
    (hr : ∀ r, row = some r → w.heap.size ≤ r ∧ r ≠ R ∧ r ≠ N ∧ r ≠ L ∧ r ≠ I ∧ r ≠ g) : MatchAt w R N L I g cur len cap last k b W' :=
  ⟨h.res.kept hg (fun e => (hr R e.symm).2.1 rfl), h.bn.kept hg (fun e => (hr N e.symm).2.2.1 rfl), h.bl.kept hg (fun e => (hr L e.symm).2.2.2.1 rfl), h.bi.kept hg (fun e => (hr I e.symm).2.2.2.2.1 rfl),
   (hg.block g (Array.getElem?_eq_some_iff.1 h.row).1 (fun e => (hr g e.symm).2.2.2.2.2 rfl)).trans h.row, h.below.grown hg h.below.size (fun r e => (hr r e).1)⟩

theorem MatchAt.own {w : World} {R N L I g : Nat} {cur : Array Value} {len cap last k : Nat} {b : Bool} {W W' : World} {row : Option Nat} {B : Nat} (h : MatchAt w R N L I g cur len cap last k b W) (hg : W.grownBy W' row)
    (hr : ∀ r, row = some r → B ≤ r ∧ ∃ o : Obj, W.heap[r]? = some o ∧ o.isCells = false) (hB : w.heap.size ≤ B) : MatchAt w R N L I g cur len cap last k b W' :=
  h.kept hg fun r e => by
    obtain ⟨h1, o, ho, hc⟩ := hr r e
    have nb : ∀ {x : Nat} {c : Array Value} {t : TypeId}, W.heap[x]? = some (.cells c t (0, 0)) → r ≠ x := by
      rintro x c t hx rfl
      rw [hx] at ho; cases ho; cases hc
    exact ⟨by omega, nb h.res, nb h.bn, nb h.bl, nb h.bi, nb h.row⟩

theorem boxBelow {W W' : World} {B n : Nat} {t : TypeId} {v : Value} (h : Boxed W B t v) (hb : Below n W W') (hlt : B < n) : Boxed W' B t v := (hb.block B hlt).trans h

theorem parts_length_le : ∀ (l : List UInt8), (parts l).length ≤ l.length + 1
  | [] => by simp [parts]
  | c :: r => by
    have ih := parts_length_le r
    by_cases h : c = 47
    · rw [parts, if_pos h]; simp; omega
    · obtain ⟨p, ps, e1, e2⟩ := parts_cons_ne c r h
      rw [e2]; rw [e1] at ih; simp at ih ⊢; omega

theorem row_cells' {W : World} {base : Nat} {e : TypeId} {v : Value} {n : Nat} {xs : List Value} (h : W.ownsRow base e 1 v n xs) (hn : 0 < n) :
    ∃ g cap, v = .slice (some ⟨g, 0, none⟩) n cap ∧ base ≤ g ∧ g < W.heap.size ∧ n ≤ cap ∧ ∃ cur, W.heap[g]? = some (.cells cur e (0, 0)) ∧ ∀ j, j < n → cur[j]? = xs[j]? := by
  obtain ⟨hl, ⟨_, h0⟩ | ⟨g, cap, cur, rfl, hb, hg, hc, _, hs, ht⟩⟩ := h
  · omega
  · exact ⟨g, cap, rfl, hb, (Array.getElem?_eq_some_iff.1 hg).1, hc, cur, hg, fun j hj => by rw [← ht]; simp [hj]⟩

theorem match_hit {ns fs fs' : List (List UInt8)} {last k : Nat} {x : List UInt8} {b : Bool} (hm : matchFrom ns last k (fs.drop k) = b) (hd : fs.drop k = x :: fs') (h1 : x = [35]) (h2 : k = last) : b = true := by
  rw [hd, matchFrom, if_pos ⟨h1, h2⟩] at hm; exact hm.symm

theorem match_miss {ns fs fs' : List (List UInt8)} {last k : Nat} {x : List UInt8} {b : Bool} (hm : matchFrom ns last k (fs.drop k) = b) (hd : fs.drop k = x :: fs') (h1 : ¬(x = [35] ∧ k = last)) (h2 : ns.length ≤ k ∨ (x ≠ [43] ∧ x ≠ ns.getD k [])) : b = false := by
  rw [hd, matchFrom, if_neg h1, if_pos h2] at hm; exact hm.symm

theorem match_on {ns fs fs' : List (List UInt8)} {last k : Nat} {x : List UInt8} {b : Bool} (hm : matchFrom ns last k (fs.drop k) = b) (hd : fs.drop k = x :: fs') (h1 : ¬(x = [35] ∧ k = last)) (h2 : ¬(ns.length ≤ k ∨ (x ≠ [43] ∧ x ≠ ns.getD k []))) : matchFrom ns last (k + 1) fs' = b := by
  rw [hd, matchFrom, if_neg h1, if_neg h2] at hm; exact hm

theorem MatchAt.next {w : World} {R N L I g : Nat} {cur : Array Value} {len cap last k : Nat} {b : Bool} {W : World} (h : MatchAt w R N L I g cur len cap last k b W) (hI : w.heap.size ≤ I ∧ I ≠ R ∧ I ≠ N ∧ I ≠ L ∧ I ≠ g) :
    MatchAt w R N L I g cur len cap last (k + 1) b (W.setCell ⟨I, 0, none⟩ (.int .i64 ((k : Int) + 1))) := by
  have o : ∀ j, j ≠ I → (W.setCell ⟨I, 0, none⟩ (.int .i64 ((k : Int) + 1))).heap[j]? = W.heap[j]? := fun j hj => Below.heap_setCell _ _ _ j hj
  exact ⟨(o _ hI.2.1.symm).trans h.res, (o _ hI.2.2.1.symm).trans h.bn, (o _ hI.2.2.2.1.symm).trans h.bl, h.bi.set _, (o _ hI.2.2.2.2.symm).trans h.row, h.below.setCell (p := ⟨I, 0, none⟩) hI.1 _⟩

set_option maxRecDepth 100000 in
set_option maxHeartbeats 2000000 in
theorem match_any (filter name : ByteArray) (hf : filter.size ≤ 1000) (hn : name.size ≤ 1000) (w : World) :
    Calls Tryd.prog 12 #[.string filter, .string name] w fun e w' => e = .returned (.bool (matchB filter.data.toList name.data.toList)) ∧ Below w.heap.size w w' := by
  refine (callsIn_wide (n := 4)).1 ?_
  refine callsIn_of_wp_marks Tryd.func12 rfl trivial ?_ rfl
  simp only [Tryd.ntmps12, List.size_toArray, List.length_cons, List.length_nil, Nat.reduceAdd, Nat.reduceSub, Array.replicate_succ, Array.replicate_zero, List.push_toArray, List.append_toArray, List.nil_append, List.cons_append]
  gi_wp2_with (refine ⟨trivial, ?_⟩; gi_at_call 18; refine (callsIn_wide.2 (parts_any _ _)).mono ?_; rintro e w2 ⟨rfl, hS2, hb2, hz2⟩)
  refine ⟨trivial, ?_⟩
  have hpl : (parts name.data.toList).length ≤ 1001 := by have := parts_length_le name.data.toList; rw [← size_eq] at this; omega
  rw [World.size_alloc] at hS2
  refine (callsIn_wide.2 (collect_any indexSaid (w.heap.size + 1) name.data.toList (by rw [← size_eq]; omega) (by omega) w2 hS2)).mono ?_
  rintro e w3 ⟨v, rfl, ho, hb3⟩
  obtain ⟨g, cap, rfl, hg1, hg2, hcap, cur, hgc, hcur⟩ := row_cells' ho (parts_length_pos _)
  clear ho hS2
  gi_wp2_with (refine ⟨trivial, ?_⟩; gi_at_call 19; refine (callsIn_wide.2 (Tryd.strings_Count_one filter 47 _)).mono ?_; rintro e w4 ⟨rfl, rfl⟩)
  refine ⟨trivial, ?_⟩
  refine (callsIn_wide.2 (parts_any _ _)).mono ?_
  rintro e w5 ⟨rfl, hS5, hb5, hz5⟩
  have hgw : g < w4.heap.size := hg2
  have hz4 : w.heap.size + 4 ≤ w4.heap.size := by have := hb3.size; rw [World.size_alloc] at hz2; omega
  have r2 := boxBelow (Boxed.new w 4 (.bool false)) hb2 (by simp)
  have r4 := boxBelow r2 hb3 (by omega)
  have n4 := (Boxed.new w4 36 (.slice (some ⟨g, 0, none⟩) (parts name.data.toList).length cap)).alloc (.cells #[.int .i64 (countByte filter.data.toList 47)] 3) |>.alloc (.cells #[.int .i64 0] 3)
  have l4 := (Boxed.new (w4.alloc (.cells #[.slice (some ⟨g, 0, none⟩) (parts name.data.toList).length cap] 36)) 3 (.int .i64 (countByte filter.data.toList 47))).alloc (.cells #[.int .i64 0] 3)
  have i4 := Boxed.new ((w4.alloc (.cells #[.slice (some ⟨g, 0, none⟩) (parts name.data.toList).length cap] 36)).alloc (.cells #[.int .i64 (countByte filter.data.toList 47)] 3)) 3 (.int .i64 0)
  rw [World.size_alloc] at l4
  rw [World.size_alloc, World.size_alloc] at i4
  have hW4 : Below w4.heap.size w4 (((w4.alloc (.cells #[.slice (some ⟨g, 0, none⟩) (parts name.data.toList).length cap] 36)).alloc (.cells #[.int .i64 (countByte filter.data.toList 47)] 3)).alloc (.cells #[.int .i64 0] 3)) :=
    (((Below.refl _ w4).alloc (Nat.le_refl _) _).alloc (by simp) _).alloc (by simp; omega) _
  have hM : MatchAt w w.heap.size w4.heap.size (w4.heap.size + 1) (w4.heap.size + 1 + 1) g cur (parts name.data.toList).length cap (countByte filter.data.toList 47) 0 false w5 := {
    res := boxBelow (boxBelow r4 hW4 (by omega)) hb5 (by simp; omega)
    bn := boxBelow n4 hb5 (by simp; omega)
    bl := boxBelow l4 hb5 (by simp)
    bi := boxBelow i4 hb5 (by simp)
    row := (hb5.block g (by simp; omega)).trans ((hW4.block g hgw).trans hgc)
    below := (((Below.refl _ w).alloc (Nat.le_refl _) _).trans (hb2.mono (by simp))).trans ((hb3.mono (by omega)).trans ((hW4.mono (by omega)).trans (hb5.mono (by simp; omega)))) }
  clear r2 r4 n4 l4 i4
  simp only [World.size_alloc] at hS5 hz5
  clear hW4 hb5 hb2 hb3 hz2
  gi_wp2
  obtain ⟨ns, hns⟩ : ∃ ns, parts name.data.toList = ns := ⟨_, rfl⟩
  obtain ⟨fs, hfs⟩ : ∃ fs, parts filter.data.toList = fs := ⟨_, rfl⟩
  obtain ⟨last, hlast⟩ : ∃ last, countByte filter.data.toList 47 = last := ⟨_, rfl⟩
  have hres : matchB filter.data.toList name.data.toList = matchFrom ns last 0 fs := by rw [matchB, hns, hfs, hlast]
  have hfl : fs.length ≤ 1001 := by have := parts_length_le filter.data.toList; rw [← size_eq, hfs] at this; omega
  have hseq := split_seq indexSaid 3 (by omega) (w4.heap.size + 1 + 1 + 1) filter.data.toList (by rw [← size_eq]; omega) w5 hS5
  rw [hfs] at hseq
  have HRES := Lib.hid hres
  rw [hns] at hM hpl hcur ⊢
  rw [hlast] at hM ⊢
  clear hns hfs hlast hres
  refine wpIn_rangeFunc_L (xs := fs) (w0 := w5) rfl (by omega) (gf := 48) (lb := #[.pointer (some ⟨w4.heap.size + 1 + 1 + 1 + 1, 0, none⟩), .pointer (some ⟨w4.heap.size + 1 + 1 + 1, 0, none⟩), .pointer (some ⟨w4.heap.size + 1 + 1 + 1 + 2, 0, none⟩)]) rfl trivial (enters_of Tryd.func48 (by kernel_rfl) rfl)
    hseq (Below.refl _ _)
    (fun A A' k o hT hk ho _ => (hT.block k (Array.getElem?_eq_some_iff.1 ho).1 (fun e => by have := Option.some.inj e; omega)).trans ho)
    (fun h1 h2 k a b => (h2 k a b).trans (h1 k a b))
    (fun W l o o' hl ho _ k a b => World.putObj_heap_other (by omega))
    (fun _ => rfl)
    (fun k W => MatchAt w w.heap.size w4.heap.size (w4.heap.size + 1) (w4.heap.size + 1 + 1) g cur ns.length cap last k false W ∧ matchFrom ns last k (fs.drop k) = matchFrom ns last 0 fs)
    (fun c k W => c = .ret ∧ Boxed W w.heap.size 4 (.bool (matchFrom ns last 0 fs)) ∧ Below w.heap.size w W)
    (fun k A A' row hs hg hr => ⟨hs.1.own hg hr (by omega), hs.2⟩)
    (fun c k A A' row hs hg hr => by
      obtain ⟨h1, h2, h3⟩ := hs
      refine ⟨h1, h2.kept hg (fun e => ?_), h3.grown hg h3.size (fun r e => by have := (hr r e).1; omega)⟩
      have := (hr _ e.symm).1; omega)
    (fun k A A' hi hT => ⟨hi.1.kept hT (fun r e => by have e' := Option.some.inj e; subst e'; omega), hi.2⟩)
    (fun c k A A' hs hT => ⟨hs.1, hs.2.1.kept hT (fun e => by have := Option.some.inj e; omega), hs.2.2.grown hT hs.2.2.size (fun r e => by have := Option.some.inj e; omega)⟩)
    ⟨hM, rfl⟩ ?a1 ?assign ?body ?done ?stop
  case assign =>
    intro l x W K hK
    gi_wp2
    exact hK
  case body =>
    rintro l k hk W ⟨hA, hm⟩
    have c0 := hA.res.cell
    have c1 := hA.bn.cell
    have c2 := hA.bl.cell
    have c3 := hA.bi.cell
    have f0 := hA.res.frozen
    have f3 := hA.bi.frozen
    have hd : fs.drop k = fs[k] :: fs.drop (k + 1) := List.drop_eq_getElem_cons hk
    have hcell : k < ns.length → W.cell? ⟨g, k, none⟩ = some (.string ⟨(ns.getD k []).toArray⟩) := fun h => by
      have := hcur k h
      unfold World.cell?
      rw [show W.heap[(⟨g, k, none⟩ : Addr).block]? = _ from hA.row]
      simp [this, h, encS]
    have HM := Lib.hid hm
    have HA := Lib.hid hA
    generalize fs[k] = x at hd
    have HD := Lib.hid hd
    clear hm hd hA
    obtain ⟨y, hy⟩ : ∃ y, ns.getD k [] = y := ⟨_, rfl⟩
    rw [hy] at hcell
    have HY := Lib.hid hy
    clear hy
    gi_wp2
    · have h1 : x = [35] := by assumption
      have h2 : ((k : Int) == last) = true := by assumption
      have E := match_hit HM.out HD.out h1 (by have := beq_iff_eq.1 h2; omega)
      exact ⟨(KeepsOthers.setCell _ _ _).from _, rfl, by rw [E]; exact HA.out.res.set _, HA.out.below.setCell (p := ⟨w.heap.size, 0, none⟩) (Nat.le_refl _) _⟩
    · have h1 : x = [35] := by assumption
      have h2 : ((k : Int) == last) = false := by assumption
      have h3 : ns.length ≤ k ∨ (![35] == y) = true := by assumption
      have E := match_miss HM.out HD.out (fun h => by simp at h2; omega) (h3.imp id fun h => ⟨by rw [h1]; decide, by rw [h1, HY.out]; simpa using h⟩)
      exact ⟨(KeepsOthers.setCell _ _ _).from _, rfl, by rw [E]; exact HA.out.res.set _, HA.out.below.setCell (p := ⟨w.heap.size, 0, none⟩) (Nat.le_refl _) _⟩
    · have h1 : x = [35] := by assumption
      have h2 : ((k : Int) == last) = false := by assumption
      have h3 : ¬ns.length ≤ k ∧ (![35] == y) = false := by assumption
      have E := match_on HM.out HD.out (fun h => by simp at h2; omega) (fun h => h.elim h3.1 fun h => h.2 (by rw [h1, HY.out]; simpa using h3.2))
      exact ⟨(KeepsOthers.setCell _ _ _).from _, fun j a b => Below.heap_setCell _ _ _ j (by simp; omega), HA.out.next (by omega), E⟩
    · have h1 : x = [35] := by assumption
      have h2 : ((k : Int) == last) = false := by assumption
      have h3 : ¬k < ns.length := by assumption
      have E := match_miss HM.out HD.out (fun h => by simp at h2; omega) (.inl (by omega))
      exact ⟨(KeepsOthers.setCell _ _ _).from _, rfl, by rw [E]; exact HA.out.res.set _, HA.out.below.setCell (p := ⟨w.heap.size, 0, none⟩) (Nat.le_refl _) _⟩
    · have h1 : ¬x = [35] := by assumption
      have h2 : x = [43] := by assumption
      have h3 : ¬ns.length ≤ k := by assumption
      have E := match_on HM.out HD.out (fun h => h1 h.1) (fun h => h.elim h3 fun h => h.1 h2)
      exact ⟨(KeepsOthers.setCell _ _ _).from _, fun j a b => Below.heap_setCell _ _ _ j (by simp; omega), HA.out.next (by omega), E⟩
    · have h1 : ¬x = [35] := by assumption
      have h2 : ¬x = [43] := by assumption
      have h3 : ns.length ≤ k ∨ (!x == [43]) = true ∧ (!x == y) = true := by assumption
      have E := match_miss HM.out HD.out (fun h => h1 h.1) (h3.imp id fun h => ⟨h2, by rw [HY.out]; simpa using h.2⟩)
      exact ⟨(KeepsOthers.setCell _ _ _).from _, rfl, by rw [E]; exact HA.out.res.set _, HA.out.below.setCell (p := ⟨w.heap.size, 0, none⟩) (Nat.le_refl _) _⟩
    · have h1 : ¬x = [35] := by assumption
      have h2 : ¬x = [43] := by assumption
      have h3 : ¬ns.length ≤ k ∧ ((!x == [43]) = false ∨ (!x == y) = false) := by assumption
      have E := match_on HM.out HD.out (fun h => h1 h.1) (fun h => h.elim h3.1 fun h => h.2 (by
        rw [HY.out]
        rcases h3.2 with h4 | h4
        · exact absurd (by simpa using h4) h2
        · simpa using h4))
      exact ⟨(KeepsOthers.setCell _ _ _).from _, fun j a b => Below.heap_setCell _ _ _ j (by simp; omega), HA.out.next (by omega), E⟩
    · have h1 : ¬x = [35] := by assumption
      have h3 : ¬k < ns.length := by assumption
      have E := match_miss HM.out HD.out (fun h => h1 h.1) (.inl (by omega))
      exact ⟨(KeepsOthers.setCell _ _ _).from _, rfl, by rw [E]; exact HA.out.res.set _, HA.out.below.setCell (p := ⟨w.heap.size, 0, none⟩) (Nat.le_refl _) _⟩
  case done =>
    rintro D W hD ⟨hA, hm⟩ hK
    have c0 := hA.res.cell
    have c1 := hA.bn.cell
    have c3 := hA.bi.cell
    have f0 := hA.res.frozen
    have hm' : matchFrom ns last 0 fs = ((fs.length : Int) == ns.length) := by
      rw [← hm, List.drop_length, matchFrom, Bool.eq_iff_iff, beq_iff_eq, beq_iff_eq]; omega
    have HM := Lib.hid hm'
    have HA := Lib.hid hA
    clear hm hm' hA
    gi_wp2
    have hK' := (KeepsOthers.setCell W ⟨w.heap.size, 0, none⟩ (.bool ((fs.length : Int) == ns.length))).same D _ hK rfl
    refine ⟨by simp, .inl ⟨_, _, rfl, run_takeDeferred hK', ?_⟩⟩
    have hc5 := cell_kept (HA.out.res.set (.bool ((fs.length : Int) == ns.length))).cell (grownBy_putObj' _ D (.deferred none)) (fun r e => by cases e; exact ⟨_, hK', rfl⟩)
    refine ⟨.bool ((fs.length : Int) == ns.length), ?_, by rw [HRES.out, HM.out], (HA.out.below.setCell (p := ⟨w.heap.size, 0, none⟩) (Nat.le_refl _) _).trans (belowK_b (w := w) (Nat.le_refl _) _ D _ _ (by omega) hK' rfl rfl)⟩
    simp [results, Tryd.f12, go_sem, hc5]
  case stop =>
    rintro D c k W hD hk ⟨rfl, hR, hB⟩ hK
    gi_wp2
    refine ⟨by simp, .inl ⟨_, _, rfl, run_takeDeferred hK, ?_⟩⟩
    have hc5 := cell_kept hR.cell (grownBy_putObj' _ D (.deferred none)) (fun r e => by cases e; exact ⟨_, hK, rfl⟩)
    refine ⟨.bool (matchFrom ns last 0 fs), ?_, by rw [HRES.out], hB.trans (belowK_b (w := w) (Nat.le_refl _) W D _ _ (by omega) hK rfl rfl)⟩
    simp [results, Tryd.f12, go_sem, hc5]

end Go.Proofs.YtffkmcohbdgnbaaDoor
