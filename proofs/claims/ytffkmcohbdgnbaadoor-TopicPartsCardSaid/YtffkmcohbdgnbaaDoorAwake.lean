/-
  The law's raw topic, and the chapter's examples: they come out as the chapter says.
-/
import Derived.Test.YtffkmcohbdgnbaaDoorLaw
namespace Go.Proofs.YtffkmcohbdgnbaaDoor
open Go Go.RowKit Go.Shelf Go.Lib

def kindL (k : Int) : List UInt8 := kinds.getD (pickZ k 5).toNat []

/-- The block of the kinds. -/
def kindsO : Obj := .cells #[.string ⟨#[111, 114, 100, 101, 114]⟩, .string ⟨#[105, 110, 115, 116, 97, 110, 116, 65, 99, 116, 105, 111, 110, 115]⟩, .string ⟨#[115, 116, 97, 116, 101]⟩, .string ⟨#[99, 111, 110, 110, 101, 99, 116, 105, 111, 110]⟩, .string ⟨#[118, 105, 115, 117, 97, 108, 105, 122, 97, 116, 105, 111, 110]⟩] 9

theorem kindsO_cell (w : World) (p : Nat) (hp : p < 5) : (w.alloc kindsO).cell? ⟨w.heap.size, p, none⟩ = some (.string ⟨(kinds.getD p []).toArray⟩) := by
  have hp' : p = 0 ∨ p = 1 ∨ p = 2 ∨ p = 3 ∨ p = 4 := by omega
  unfold kindsO
  rw [cell_new_at]
  rcases hp' with rfl | rfl | rfl | rfl | rfl <;> rfl

set_option maxRecDepth 100000 in
set_option maxHeartbeats 1000000 in
theorem topic_any (m s : ByteArray) (k : Int) (hm : m.size ≤ 9223372036854775807) (hs : s.size ≤ 9223372036854775807) (h1 : -9223372036854775807 ≤ k + 1) (h2 : k ≤ 9223372036854775807) (w : World) :
    Calls Tryd.prog 10 #[.string m, .string s, .int .i64 k] w fun e w' => e = .returned (.agg #[.string ⟨(fitL m.data.toList).toArray⟩, .string ⟨(fitL s.data.toList).toArray⟩, .string ⟨(kindL k).toArray⟩]) ∧ Below w.heap.size w w' := by
  obtain ⟨r0, r1⟩ := pickZ_range k 5 (by omega)
  obtain ⟨p, hp⟩ : ∃ p, (pickZ k 5).toNat = p := ⟨_, rfl⟩
  have hpk : pickZ k 5 = (p : Int) := by omega
  have hp5 : p < 5 := by omega
  have hkl : kindL k = kinds.getD p [] := by rw [kindL, hp]
  have HP := Lib.hid hpk
  have HK := Lib.hid hkl
  clear hp hpk hkl r0 r1
  go_enter Tryd.func10, Tryd.ntmps10
  go_wp2_with fail
  refine (fit_any m hm _).mono ?_
  rintro e w1 ⟨rfl, hb1⟩
  go_wp2_with fail
  refine (fit_any s hs _).mono ?_
  rintro e w2 ⟨rfl, hb2⟩
  have hb12 := hb1.trans (hb2.mono hb1.size)
  go_wp2_with fail
  have hbA : Below (w.alloc (.cells #[.string ⟨#[]⟩, .string ⟨#[]⟩, .string ⟨#[]⟩] 30)).heap.size (w.alloc (.cells #[.string ⟨#[]⟩, .string ⟨#[]⟩, .string ⟨#[]⟩] 30)) (w2.alloc kindsO) := hb12.alloc hb12.size _
  have hkc := kindsO_cell w2 p hp5
  obtain ⟨f0, f1, f2⟩ := box3 hbA
  have z0 : (w2.alloc kindsO).frozen? ⟨w.heap.size, 0, none⟩ = false := (hbA.frozen (p := ⟨w.heap.size, 0, none⟩) (by simp)).trans (frozen_new_at _ _ _ _)
  have z1 : (w2.alloc kindsO).frozen? ⟨w.heap.size, 1, none⟩ = false := (hbA.frozen (p := ⟨w.heap.size, 1, none⟩) (by simp)).trans (frozen_new_at _ _ _ _)
  have z2 : (w2.alloc kindsO).frozen? ⟨w.heap.size, 2, none⟩ = false := (hbA.frozen (p := ⟨w.heap.size, 2, none⟩) (by simp)).trans (frozen_new_at _ _ _ _)
  have h0 : Below w.heap.size w (w2.alloc kindsO) := ((Below.refl _ w).alloc (Nat.le_refl _) _).trans (hbA.mono (by simp))
  change Calls Tryd.prog 8 _ (w2.alloc kindsO) _
  generalize w2.alloc kindsO = w3 at hkc f0 f1 f2 z0 z1 z2 h0 ⊢
  clear hbA
  refine (pick_any k 5 h1 h2 (by omega) (by omega) _).mono ?_
  rw [HP.out]
  rintro e w3 ⟨rfl, rfl⟩
  go_wp2
  refine bodyPost_ret (v := .agg #[.string ⟨(fitL m.data.toList).toArray⟩, .string ⟨(fitL s.data.toList).toArray⟩, .string ⟨(kinds.getD p []).toArray⟩]) ?_ rfl ⟨by rw [HK.out], ?_⟩
  · simp [results, Tryd.results10, go_sem, f0, f1, f2]
  · exact ((((h0.setCell (p := ⟨w.heap.size, 0, none⟩) (Nat.le_refl _) _).setCell (p := ⟨w.heap.size, 1, none⟩) (Nat.le_refl _) _).setCell (p := ⟨w.heap.size, 2, none⟩) (Nat.le_refl _) _))

/-! The chapter's examples. -/
def exM : List UInt8 := [109]
def exS : List UInt8 := [118, 49]
def exK : List UInt8 := [115, 116, 97, 116, 101]
def exT : List UInt8 := [117, 97, 103, 118, 47, 118, 50, 47, 109, 47, 118, 49, 47, 115, 116, 97, 116, 101]
def exX : List UInt8 := [117, 97, 103, 118, 47, 118, 50, 47, 109, 47, 118, 49, 47, 120]

theorem ex_topic : topicL exM exS exK = exT := by decide +kernel
theorem ex_right : rightT exM exS exK = true := by decide +kernel
theorem ex_prefix : hasPrefix exT headL = true := by decide +kernel
theorem ex_parts : parts (exT.drop 8) = [exM, exS, exK] := by decide +kernel
theorem ex_prefix2 : hasPrefix exX headL = true := by decide +kernel
theorem ex_parts2 : parts (exX.drop 8) = [exM, exS, [120]] := by decide +kernel
theorem ex_name1 : nameB exM = true := by decide +kernel
theorem ex_name2 : nameB exS = true := by decide +kernel
theorem ex_kind : kindB [120] = false := by decide +kernel
theorem ex_match1 : matchB [117, 97, 103, 118, 47, 118, 50, 47, 43, 47, 118, 49, 47, 35] exT = true := by decide +kernel
theorem ex_match2 : matchB [117, 97, 103, 118, 47, 43] exT = false := by decide +kernel

theorem match_of {f n : List UInt8} {b : Bool} (h : matchB f n = b) (hf : f.length ≤ 1000) (hn : n.length ≤ 1000) (w : World) :
    Calls Tryd.prog 12 #[.string ⟨f.toArray⟩, .string ⟨n.toArray⟩] w fun e w' => e = .returned (.bool b) ∧ Below w.heap.size w w' :=
  (match_any ⟨f.toArray⟩ ⟨n.toArray⟩ (by rw [size_mk]; exact hf) (by rw [size_mk]; exact hn) w).mono fun e w' hr => ⟨by rw [hr.1]; exact congrArg (fun b => Ending.returned (.bool b)) h, hr.2⟩

def exO : Obj := .cells #[.string ⟨#[109]⟩, .string ⟨#[118, 49]⟩, .string ⟨#[115, 116, 97, 116, 101]⟩] 30

set_option maxRecDepth 100000 in
set_option maxHeartbeats 2000000 in
theorem awake_any (w : World) : Calls Tryd.prog 6 #[] w fun e w' => e = .returned (.bool true) ∧ Below w.heap.size w w' := by
  go_enter Tryd.func6, Tryd.ntmps6
  go_wp2_with fail
  refine (print_yes ⟨exM.toArray⟩ ⟨exS.toArray⟩ ⟨exK.toArray⟩ _ ex_right).mono ?_
  rw [show topicL (⟨exM.toArray⟩ : ByteArray).data.toList (⟨exS.toArray⟩ : ByteArray).data.toList (⟨exK.toArray⟩ : ByteArray).data.toList = exT from ex_topic]
  rintro e w1 ⟨rfl, hb1⟩
  obtain ⟨c0, c1, c2⟩ := box3 hb1
  have B1 : Below w.heap.size w w1 := ((Below.refl _ w).alloc (Nat.le_refl _) _).trans (hb1.mono (by simp))
  unfold exT
  go_wp2_with fail
  refine (parse_yes ⟨exT.toArray⟩ exM exS exK _ (by decide) ex_prefix ex_parts ex_right).mono ?_
  rintro e w2 ⟨rfl, hb2⟩
  have B2 := B1.trans (hb2.mono B1.size)
  have hz1 : w.heap.size < w1.heap.size := by have := hb1.size; simp at this; omega
  have d0 := (hb2.cell (p := ⟨w.heap.size, 0, none⟩) hz1).trans c0
  have d1 := (hb2.cell (p := ⟨w.heap.size, 1, none⟩) hz1).trans c1
  have d2 := (hb2.cell (p := ⟨w.heap.size, 2, none⟩) hz1).trans c2
  have hz12 := hb2.size
  clear c0 c1 c2
  unfold exM exS exK
  have e0 := (Below.cell (p := ⟨w.heap.size, 0, none⟩) ((Below.refl w2.heap.size w2).alloc (Nat.le_refl _) exO) (by simp; omega)).trans d0
  have e1 := (Below.cell (p := ⟨w.heap.size, 1, none⟩) ((Below.refl w2.heap.size w2).alloc (Nat.le_refl _) exO) (by simp; omega)).trans d1
  have e2 := (Below.cell (p := ⟨w.heap.size, 2, none⟩) ((Below.refl w2.heap.size w2).alloc (Nat.le_refl _) exO) (by simp; omega)).trans d2
  go_wp2_with fail
  change Calls Tryd.prog 13 _ (w2.alloc exO) _
  have hz2 : w2.heap.size + 1 = (w2.alloc exO).heap.size := by simp
  refine (parse_no ⟨exX.toArray⟩ exM exS [120] _ (by decide) ex_prefix2 ex_parts2 ex_name1 ex_name2 ex_kind).mono ?_
  rintro e w3 ⟨rfl, hb3⟩
  have B3 : Below w.heap.size w w3 := (B2.alloc (by omega) exO).trans (hb3.mono (by simp; omega))
  have hz3 := hb3.size
  rw [← hz2] at hz3
  obtain ⟨f0, f1, f2⟩ := box3 hb3
  have g0 := (hb3.cell (p := ⟨w.heap.size, 0, none⟩) (by simp; omega)).trans e0
  have g1 := (hb3.cell (p := ⟨w.heap.size, 1, none⟩) (by simp; omega)).trans e1
  have g2 := (hb3.cell (p := ⟨w.heap.size, 2, none⟩) (by simp; omega)).trans e2
  clear e0 e1 e2 d0 d1 d2 hz2
  have hA : Below w3.heap.size w3 (w3.alloc (.cells #[.string ⟨#[]⟩, .string ⟨#[]⟩, .string ⟨#[]⟩] 30)) := (Below.refl _ _).alloc (Nat.le_refl _) _
  have h0 := (hA.cell (p := ⟨w.heap.size, 0, none⟩) (by simp; omega)).trans g0
  have h1 := (hA.cell (p := ⟨w.heap.size, 1, none⟩) (by simp; omega)).trans g1
  have h2 := (hA.cell (p := ⟨w.heap.size, 2, none⟩) (by simp; omega)).trans g2
  have i0 := (hA.cell (p := ⟨w2.heap.size, 0, none⟩) (by simp; omega)).trans f0
  have i1 := (hA.cell (p := ⟨w2.heap.size, 1, none⟩) (by simp; omega)).trans f1
  have i2 := (hA.cell (p := ⟨w2.heap.size, 2, none⟩) (by simp; omega)).trans f2
  clear f0 f1 f2 g0 g1 g2 hb1 hb2 hb3 hA
  have B4 : Below w.heap.size w (w3.alloc (.cells #[.string ⟨#[]⟩, .string ⟨#[]⟩, .string ⟨#[]⟩] 30)) := B3.alloc (by omega) _
  go_wp2_with fail
  clear h0 h1 h2 i0 i1 i2
  refine (match_of ex_match1 (by decide) (by decide) _).mono ?_
  rintro e w5 ⟨rfl, hb5⟩
  have B5 := B4.trans (hb5.mono B4.size)
  go_wp2_with fail
  refine (match_of ex_match2 (by decide) (by decide) _).mono ?_
  rintro e w6 ⟨rfl, hb6⟩
  have B6 := B5.trans (hb6.mono B5.size)
  go_wp2_with fail
  refine (name_any ⟨exS.toArray⟩ (by decide) _).mono ?_
  rw [show nameB (⟨exS.toArray⟩ : ByteArray).data.toList = true from ex_name2]
  rintro e w7 ⟨rfl, hb7⟩
  have B7 := B6.trans (hb7.mono B6.size)
  go_wp2
  go_ret
  exact ⟨rfl, B7⟩

end Go.Proofs.YtffkmcohbdgnbaaDoor
