/-
  topic.Parse of the program, at a text with the head and three parts.
-/
import Derived.RegionTactic
import Derived.Test.YtffkmcohbdgnbaaDoorName
namespace Go.Proofs.YtffkmcohbdgnbaaDoor
open Go Go.RowKit Go.Shelf Go.Lib

theorem row_cells {W : World} {base : Nat} {e : TypeId} {v : Value} {n : Nat} {xs : List Value} (h : W.ownsRow base e 1 v n xs) (hn : 0 < n) :
    ∃ g cap, v = .slice (some ⟨g, 0, none⟩) n cap ∧ base ≤ g ∧ g < W.heap.size ∧ ∀ j, j < n → W.cell? ⟨g, j, none⟩ = xs[j]? := by
  obtain ⟨hl, ⟨_, h0⟩ | ⟨g, cap, cur, rfl, hb, hg, hc, _, hs, ht⟩⟩ := h
  · omega
  · refine ⟨g, cap, rfl, hb, (Array.getElem?_eq_some_iff.1 hg).1, fun j hj => ?_⟩
    unfold World.cell?
    rw [show W.heap[(⟨g, j, none⟩ : Addr).block]? = _ from hg, ← ht]
    simp [hj]

/-- The collected parts, three of them. -/
theorem row3 {W : World} {base : Nat} {v : Value} {a b c : List UInt8} (h : W.ownsRow base 9 1 v 3 [encS a, encS b, encS c]) :
    ∃ g cap, v = .slice (some ⟨g, 0, none⟩) 3 cap ∧ base ≤ g ∧ g < W.heap.size ∧ W.cell? ⟨g, 0, none⟩ = some (.string ⟨a.toArray⟩) ∧ W.cell? ⟨g, 1, none⟩ = some (.string ⟨b.toArray⟩) ∧ W.cell? ⟨g, 2, none⟩ = some (.string ⟨c.toArray⟩) := by
  obtain ⟨g, cap, e, hb, hg, hc⟩ := row_cells h (by omega)
  exact ⟨g, cap, e, hb, hg, hc 0 (by omega), hc 1 (by omega), hc 2 (by omega)⟩

theorem frozen_new_at (w : World) (xs : Array Value) (t : TypeId) (j : Nat) : (w.alloc (.cells xs t)).frozen? ⟨w.heap.size, j, none⟩ = false := by
  unfold World.frozen?
  rw [show (w.alloc (.cells xs t)).heap[(⟨w.heap.size, j, none⟩ : Addr).block]? = _ from World.alloc_heap_new w _]
  simp

set_option maxRecDepth 100000 in
set_option maxHeartbeats 2000000 in
theorem parse_yes (s : ByteArray) (a b c : List UInt8) (w : World) (hs : s.size ≤ 1000) (hp : hasPrefix s.data.toList headL = true) (hd : parts (s.data.toList.drop 8) = [a, b, c]) (h : rightT a b c = true) :
    Calls Tryd.prog 13 #[.string s] w fun e w' => e = .returned (.tuple #[.agg #[.string ⟨a.toArray⟩, .string ⟨b.toArray⟩, .string ⟨c.toArray⟩], .int .i64 0]) ∧ Below w.heap.size w w' := by
  simp only [rightT, Bool.and_eq_true] at h
  obtain ⟨h1, h2, h3⟩ := h
  have y1 := nameB_size h1
  have y2 := nameB_size h2
  have H1 := Lib.hid h1
  have H2 := Lib.hid h2
  have H3 := Lib.hid h3
  have ht : trimPrefix s.data.toList headL = s.data.toList.drop 8 := by rw [trimPrefix, if_pos hp]; rfl
  have hl : (s.data.toList.drop 8).length ≤ 1000 := by rw [List.length_drop, ← size_eq]; omega
  have HP := Lib.hid hp
  have HT := Lib.hid ht
  have HD := Lib.hid hd
  clear h1 h2 h3 hp ht hd
  go_enter Tryd.func13, Tryd.ntmps13
  go_wp2_with fail
  refine (Tryd.strings_CutPrefix s ⟨headL.toArray⟩ _).mono ?_
  rw [show (⟨headL.toArray⟩ : ByteArray).data.toList = headL from rfl, HP.out, HT.out]
  generalize s.data.toList.drop 8 = r at HD hl ⊢
  rintro e w1 ⟨rfl, rfl⟩
  go_wp2_with fail
  refine (parts_any _ _).mono ?_
  rintro e w2 ⟨rfl, hS2, hb2, hz2⟩
  have hpl : (parts r).length = 3 := by rw [HD.out]; rfl
  go_wp2_with fail
  rw [World.size_alloc] at hS2
  refine (collect_any indexSaid (w.heap.size + 1) r (by omega) (by rw [hpl]; decide) _ hS2).mono ?_
  rw [HD.out]
  rintro e w3 ⟨v, rfl, ho, hb3⟩
  clear hpl hS2
  obtain ⟨g, cap, rfl, hg1, hg2, c0, c1, c2⟩ := row3 ho
  clear ho
  have hge : w.heap.size + 1 ≤ w2.heap.size := by have := hb2.size; simpa using this
  have hb13 : Below (w.alloc (.cells #[.string ⟨#[]⟩, .string ⟨#[]⟩, .string ⟨#[]⟩] 30)).heap.size (w.alloc (.cells #[.string ⟨#[]⟩, .string ⟨#[]⟩, .string ⟨#[]⟩] 30)) w3 := hb2.trans (by rw [World.size_alloc]; exact hb3)
  go_wp2_with fail
  refine (name_any ⟨a.toArray⟩ (by simp [ByteArray.size]; omega) _).mono ?_
  rw [show (⟨a.toArray⟩ : ByteArray).data.toList = a from rfl, H1.out]
  rintro e w4 ⟨rfl, hb4⟩
  have d1 := (hb4.cell (p := ⟨g, 1, none⟩) hg2).trans c1
  have hb14 := hb13.trans (hb4.mono hb13.size)
  go_wp2_with fail
  refine (name_any ⟨b.toArray⟩ (by simp [ByteArray.size]; omega) _).mono ?_
  rw [show (⟨b.toArray⟩ : ByteArray).data.toList = b from rfl, H2.out]
  rintro e w5 ⟨rfl, hb5⟩
  have hb35 := hb4.trans (hb5.mono hb4.size)
  have d2 := (hb35.cell (p := ⟨g, 2, none⟩) hg2).trans c2
  have hb15 := hb14.trans (hb5.mono hb14.size)
  clear d1
  go_wp2_with fail
  refine (kind_any ⟨c.toArray⟩ _).mono ?_
  rw [show (⟨c.toArray⟩ : ByteArray).data.toList = c from rfl, H3.out]
  rintro e w6 ⟨rfl, hb6⟩
  clear d2
  have hb36 := hb35.trans (hb6.mono hb35.size)
  have e0 := (hb36.cell (p := ⟨g, 0, none⟩) hg2).trans c0
  have e1 := (hb36.cell (p := ⟨g, 1, none⟩) hg2).trans c1
  have e2 := (hb36.cell (p := ⟨g, 2, none⟩) hg2).trans c2
  clear c0 c1 c2
  have hb16 := hb15.trans (hb6.mono hb15.size)
  obtain ⟨f0, f1, f2⟩ := box3 hb16
  have z0 : w6.frozen? ⟨w.heap.size, 0, none⟩ = false := (hb16.frozen (p := ⟨w.heap.size, 0, none⟩) (by simp)).trans (frozen_new_at _ _ _ _)
  have z1 : w6.frozen? ⟨w.heap.size, 1, none⟩ = false := (hb16.frozen (p := ⟨w.heap.size, 1, none⟩) (by simp)).trans (frozen_new_at _ _ _ _)
  have z2 : w6.frozen? ⟨w.heap.size, 2, none⟩ = false := (hb16.frozen (p := ⟨w.heap.size, 2, none⟩) (by simp)).trans (frozen_new_at _ _ _ _)
  go_wp2_with fail
  go_region
  go_wp2
  refine bodyPost_ret (v := .tuple #[.agg #[.string ⟨a.toArray⟩, .string ⟨b.toArray⟩, .string ⟨c.toArray⟩], .int .i64 0]) ?_ rfl ⟨rfl, ?_⟩
  · simp [results, Tryd.results13, go_sem, f0, f1, f2]
  · have h0 : Below w.heap.size w w6 := ((Below.refl _ w).alloc (Nat.le_refl _) _).trans (hb16.mono (by simp))
    exact ((((h0.setCell (p := ⟨w.heap.size, 0, none⟩) (Nat.le_refl _) _).setCell (p := ⟨w.heap.size, 1, none⟩) (Nat.le_refl _) _).setCell (p := ⟨w.heap.size, 2, none⟩) (Nat.le_refl _) _)).drew

set_option maxRecDepth 100000 in
set_option maxHeartbeats 2000000 in
/-- .. the kind is none. -/
theorem parse_no (s : ByteArray) (a b c : List UInt8) (w : World) (hs : s.size ≤ 1000) (hp : hasPrefix s.data.toList headL = true) (hd : parts (s.data.toList.drop 8) = [a, b, c]) (h1 : nameB a = true) (h2 : nameB b = true) (h3 : kindB c = false) :
    Calls Tryd.prog 13 #[.string s] w fun e w' => e = .returned (.tuple #[.agg #[.string ⟨#[]⟩, .string ⟨#[]⟩, .string ⟨#[]⟩], .int .i64 70]) ∧ Below w.heap.size w w' := by
  have y1 := nameB_size h1
  have y2 := nameB_size h2
  have H1 := Lib.hid h1
  have H2 := Lib.hid h2
  have H3 := Lib.hid h3
  have ht : trimPrefix s.data.toList headL = s.data.toList.drop 8 := by rw [trimPrefix, if_pos hp]; rfl
  have hl : (s.data.toList.drop 8).length ≤ 1000 := by rw [List.length_drop, ← size_eq]; omega
  have HP := Lib.hid hp
  have HT := Lib.hid ht
  have HD := Lib.hid hd
  clear h1 h2 h3 hp ht hd
  go_enter Tryd.func13, Tryd.ntmps13
  go_wp2_with fail
  refine (Tryd.strings_CutPrefix s ⟨headL.toArray⟩ _).mono ?_
  rw [show (⟨headL.toArray⟩ : ByteArray).data.toList = headL from rfl, HP.out, HT.out]
  generalize s.data.toList.drop 8 = r at HD hl ⊢
  rintro e w1 ⟨rfl, rfl⟩
  go_wp2_with fail
  refine (parts_any _ _).mono ?_
  rintro e w2 ⟨rfl, hS2, hb2, hz2⟩
  have hpl : (parts r).length = 3 := by rw [HD.out]; rfl
  go_wp2_with fail
  rw [World.size_alloc] at hS2
  refine (collect_any indexSaid (w.heap.size + 1) r (by omega) (by rw [hpl]; decide) _ hS2).mono ?_
  rw [HD.out]
  rintro e w3 ⟨v, rfl, ho, hb3⟩
  clear hpl hS2
  obtain ⟨g, cap, rfl, hg1, hg2, c0, c1, c2⟩ := row3 ho
  clear ho
  have hge : w.heap.size + 1 ≤ w2.heap.size := by have := hb2.size; simpa using this
  have hb13 : Below (w.alloc (.cells #[.string ⟨#[]⟩, .string ⟨#[]⟩, .string ⟨#[]⟩] 30)).heap.size (w.alloc (.cells #[.string ⟨#[]⟩, .string ⟨#[]⟩, .string ⟨#[]⟩] 30)) w3 := hb2.trans (by rw [World.size_alloc]; exact hb3)
  go_wp2_with fail
  refine (name_any ⟨a.toArray⟩ (by simp [ByteArray.size]; omega) _).mono ?_
  rw [show (⟨a.toArray⟩ : ByteArray).data.toList = a from rfl, H1.out]
  rintro e w4 ⟨rfl, hb4⟩
  have d1 := (hb4.cell (p := ⟨g, 1, none⟩) hg2).trans c1
  have hb14 := hb13.trans (hb4.mono hb13.size)
  go_wp2_with fail
  refine (name_any ⟨b.toArray⟩ (by simp [ByteArray.size]; omega) _).mono ?_
  rw [show (⟨b.toArray⟩ : ByteArray).data.toList = b from rfl, H2.out]
  rintro e w5 ⟨rfl, hb5⟩
  have hb35 := hb4.trans (hb5.mono hb4.size)
  have d2 := (hb35.cell (p := ⟨g, 2, none⟩) hg2).trans c2
  have hb15 := hb14.trans (hb5.mono hb14.size)
  clear d1
  go_wp2_with fail
  refine (kind_any ⟨c.toArray⟩ _).mono ?_
  rw [show (⟨c.toArray⟩ : ByteArray).data.toList = c from rfl, H3.out]
  rintro e w6 ⟨rfl, hb6⟩
  clear d2
  have hb16 := hb15.trans (hb6.mono hb15.size)
  obtain ⟨f0, f1, f2⟩ := box3 hb16
  have z0 : w6.frozen? ⟨w.heap.size, 0, none⟩ = false := (hb16.frozen (p := ⟨w.heap.size, 0, none⟩) (by simp)).trans (frozen_new_at _ _ _ _)
  have z1 : w6.frozen? ⟨w.heap.size, 1, none⟩ = false := (hb16.frozen (p := ⟨w.heap.size, 1, none⟩) (by simp)).trans (frozen_new_at _ _ _ _)
  have z2 : w6.frozen? ⟨w.heap.size, 2, none⟩ = false := (hb16.frozen (p := ⟨w.heap.size, 2, none⟩) (by simp)).trans (frozen_new_at _ _ _ _)
  go_wp2
  refine bodyPost_ret (v := .tuple #[.agg #[.string ⟨#[]⟩, .string ⟨#[]⟩, .string ⟨#[]⟩], .int .i64 70]) ?_ rfl ⟨rfl, ?_⟩
  · simp [results, Tryd.results13, go_sem, f0, f1, f2]
  · have h0 : Below w.heap.size w w6 := ((Below.refl _ w).alloc (Nat.le_refl _) _).trans (hb16.mono (by simp))
    exact ((((h0.setCell (p := ⟨w.heap.size, 0, none⟩) (Nat.le_refl _) _).setCell (p := ⟨w.heap.size, 1, none⟩) (Nat.le_refl _) _).setCell (p := ⟨w.heap.size, 2, none⟩) (Nat.le_refl _) _))

end Go.Proofs.YtffkmcohbdgnbaaDoor
