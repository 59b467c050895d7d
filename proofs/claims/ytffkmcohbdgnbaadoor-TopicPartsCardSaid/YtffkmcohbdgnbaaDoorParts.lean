/-
  The law TopicParts returns true, whatever it is given.
-/
import Derived.Test.YtffkmcohbdgnbaaDoorPartsPlain
namespace Go.Proofs.YtffkmcohbdgnbaaDoor
open Go Go.RowKit Go.Shelf Go.Lib

theorem five_of (a b : List UInt8) (k : Int) : Five [uagv, vtwo, fitL a, fitL b, kindL k] ∧ ∀ j, ([uagv, vtwo, fitL a, fitL b, kindL k].getD j []).length ≤ 16 := by
  have hk := kindL_at k
  have ha := fitL_length a
  have hb := fitL_length b
  have h35 : ∀ l : List UInt8, fitL l ≠ [35] := fun l e => by
    have := fitL_mem l 35 (by rw [e]; simp)
    exact absurd this (by decide +kernel)
  have hkn : kindL k ≠ [] := fun e => by have := hk.2.2.2; rw [e] at this; exact absurd this (by decide +kernel)
  refine ⟨⟨rfl, ?_, ?_, ?_⟩, ?_⟩
  · intro j hj
    match j, hj with
    | 0, _ => exact (by decide : uagv ≠ [35])
    | 1, _ => exact (by decide : vtwo ≠ [35])
    | 2, _ => exact h35 a
    | 3, _ => exact h35 b
    | 4, _ => exact fun e => hk.2.2.1 (by rw [show kindL k = [35] from e]; simp)
  · intro j hj
    match j, hj with
    | 0, _ => exact (by decide : 47 ∉ uagv)
    | 1, _ => exact (by decide : 47 ∉ vtwo)
    | 2, _ => exact fit_no_slash a
    | 3, _ => exact fit_no_slash b
    | 4, _ => exact hk.1
  · intro j hj
    match j, hj with
    | 0, _ => exact (by decide : uagv ≠ [])
    | 1, _ => exact (by decide : vtwo ≠ [])
    | 2, _ => exact fun e => by have := congrArg List.length (show fitL a = [] from e); rw [List.length_nil] at this; omega
    | 3, _ => exact fun e => by have := congrArg List.length (show fitL b = [] from e); rw [List.length_nil] at this; omega
    | 4, _ => exact hkn
  · intro j
    match j with
    | 0 => exact (by decide : uagv.length ≤ 16)
    | 1 => exact (by decide : vtwo.length ≤ 16)
    | 2 => exact ha.2
    | 3 => exact hb.2
    | 4 => exact kindB_size hk.2.2.2
    | j + 5 => simp

/-- The block of the five parts. -/
def fiveO (L : List (List UInt8)) : Array Value := (L.map fun x => Value.string ⟨x.toArray⟩).toArray
theorem fiveO_at (L : List (List UInt8)) (j : Nat) (hj : j < L.length) : (fiveO L)[j]? = some (.string ⟨(L.getD j []).toArray⟩) := by
  simp [fiveO, hj]

theorem bytes3 (q u : List UInt8) : (⟨q.toArray⟩ : ByteArray) ++ ⟨#[47]⟩ ++ ⟨u.toArray⟩ = ⟨(q ++ 47 :: u).toArray⟩ := by
  rw [show (⟨#[47]⟩ : ByteArray) = ⟨[47].toArray⟩ from rfl, bytes_append, bytes_append]
  simp

theorem bytes4 (o u : List UInt8) : (⟨o.toArray⟩ : ByteArray) ++ (⟨u.toArray⟩ ++ ⟨#[43]⟩) ++ ⟨#[47]⟩ = ⟨(o ++ (u ++ [43] ++ [47])).toArray⟩ := by
  rw [show (⟨#[47]⟩ : ByteArray) = ⟨[47].toArray⟩ from rfl, show (⟨#[43]⟩ : ByteArray) = ⟨[43].toArray⟩ from rfl, bytes_append, bytes_append, bytes_append]
  simp
theorem bytes5 (o u : List UInt8) : (⟨o.toArray⟩ : ByteArray) ++ (⟨u.toArray⟩ ++ ⟨#[43]⟩) = ⟨(o ++ (u ++ [43] ++ [])).toArray⟩ := by
  rw [show (⟨#[43]⟩ : ByteArray) = ⟨[43].toArray⟩ from rfl, bytes_append, bytes_append]
  simp
theorem bytes6 (o u : List UInt8) : (⟨o.toArray⟩ : ByteArray) ++ ⟨u.toArray⟩ ++ ⟨#[47]⟩ = ⟨(o ++ (u ++ [47])).toArray⟩ := by
  rw [show (⟨#[47]⟩ : ByteArray) = ⟨[47].toArray⟩ from rfl, bytes_append, bytes_append]
  simp
theorem bytes7 (o u : List UInt8) : (⟨o.toArray⟩ : ByteArray) ++ ⟨u.toArray⟩ = ⟨(o ++ (u ++ [])).toArray⟩ := by
  rw [bytes_append]
  simp

set_option maxRecDepth 100000 in
set_option maxHeartbeats 4000000 in
theorem parts_calls (a b : ByteArray) (ha : a.size ≤ 9223372036854775807) (hb : b.size ≤ 9223372036854775807)
    (k l : Int) (k1 : -9223372036854775807 ≤ k + 1) (k2 : k ≤ 9223372036854775807) (l1 : -9223372036854775807 ≤ l + 1) (l2 : l ≤ 9223372036854775807) (w : World) :
    Calls Tryd.prog 5 #[.string a, .string b, .int .i64 k, .int .i64 l] w fun e w' => e = .returned (.bool true) ∧ Below w.heap.size w w' := by
  obtain ⟨h5, h16⟩ := five_of a.data.toList b.data.toList k
  have hpx := parts_topic (fitL a.data.toList) (fitL b.data.toList) (kindL k) (fit_no_slash _) (fit_no_slash _) (kindL_at k).1
  have HR1 := Lib.hid (right_fit a.data.toList b.data.toList k)
  have hxl : (topicL (fitL a.data.toList) (fitL b.data.toList) (kindL k)).length ≤ 100 := by
    have h2 := h16 2
    have h3 := h16 3
    have h4 := h16 4
    simp [topicL, headL] at *; omega
  obtain ⟨r0, r1⟩ := pickZ_range l 4 (by omega)
  obtain ⟨p, hp⟩ : ∃ p : Nat, pickZ l 4 = p := ⟨(pickZ l 4).toNat, by omega⟩
  have hp3 : p ≤ 3 := by omega
  have HP := Lib.hid hp
  have H5 := Lib.hid h5
  have HX := Lib.hid hpx
  have H16 := Lib.hid h16
  clear h5 hpx h16 r0 r1 hp
  go_enter Tryd.func5, Tryd.ntmps5
  go_wp2_with fail
  refine (awake_any _).mono ?_
  rintro e w1 ⟨rfl, hB⟩
  have hz1 := hB.size
  go_wp2_with fail
  refine (topic_any a b k ha hb k1 k2 _).mono ?_
  generalize fitL a.data.toList = fa at H5 HX HR1 H16 hxl ⊢
  generalize fitL b.data.toList = fb at H5 HX HR1 H16 hxl ⊢
  generalize kindL k = fk at H5 HX HR1 H16 hxl ⊢
  rintro e w2 ⟨rfl, hb2⟩
  have hz2 := hb2.size
  replace hB := (hB.trans (hb2.mono hB.size)).alloc (by omega) (.cells #[.string ⟨fa.toArray⟩, .string ⟨fb.toArray⟩, .string ⟨fk.toArray⟩] 30)
  clear hb2
  obtain ⟨f0, f1, f2⟩ := box3 (Below.refl _ (w2.alloc (.cells #[.string ⟨fa.toArray⟩, .string ⟨fb.toArray⟩, .string ⟨fk.toArray⟩] 30)))
  go_wp2_with fail
  have hzO : w2.heap.size + 1 = (w2.alloc (.cells #[.string ⟨fa.toArray⟩, .string ⟨fb.toArray⟩, .string ⟨fk.toArray⟩] 30)).heap.size := by simp
  generalize w2.alloc (.cells #[.string ⟨fa.toArray⟩, .string ⟨fb.toArray⟩, .string ⟨fk.toArray⟩] 30) = O2 at f0 f1 f2 hB hzO ⊢
  refine (print_of HR1.out _).mono ?_
  generalize topicL fa fb fk = x at HX hxl ⊢
  rintro e w3 ⟨rfl, hb3⟩
  replace f0 := cell_keep hb3 f0 (by omega)
  replace f1 := cell_keep hb3 f1 (by omega)
  replace f2 := cell_keep hb3 f2 (by omega)
  replace hB := hB.trans (hb3.mono hB.size)
  have hz3 := hb3.size
  clear hb3
  go_wp2_with fail
  clear f0 f1 f2
  have hg : w3.alloc (.cells #[.string ⟨#[117, 97, 103, 118]⟩, .string ⟨#[118, 50]⟩, .string ⟨fa.toArray⟩, .string ⟨fb.toArray⟩, .string ⟨fk.toArray⟩] 9) = w3.alloc (.cells (fiveO [uagv, vtwo, fa, fb, fk]) 9) := rfl
  have hcells := fun j (hj : j < [uagv, vtwo, fa, fb, fk].length) => (cell_new_at w3 (fiveO [uagv, vtwo, fa, fb, fk]) 9 j).trans (fiveO_at _ j hj)
  have hB' := hB.alloc (show w.heap.size ≤ w3.heap.size by omega) (.cells (fiveO [uagv, vtwo, fa, fb, fk]) 9)
  have hzO4 : w3.heap.size + 1 = (w3.alloc (.cells (fiveO [uagv, vtwo, fa, fb, fk]) 9)).heap.size := by simp
  rw [hg]
  generalize w3.alloc (.cells (fiveO [uagv, vtwo, fa, fb, fk]) 9) = O4 at hcells hB' hzO4 ⊢
  generalize [uagv, vtwo, fa, fb, fk] = L at H5 HX H16 hcells
  clear hg hB
  refine (pick_any l 4 l1 l2 (by omega) (by omega) _).mono ?_
  rw [HP.out]
  rintro e w5 ⟨rfl, rfl⟩
  have hlen := H5.out.len
  have c0 := hcells 0 (by omega)
  have HC := Lib.hid hcells
  have HL := Lib.hid hlen
  clear hcells hlen l1 l2 HP
  go_wp2
  go_loop [15, 16] (fun q i => ∃ j : Nat, j ≤ p ∧ i = .int .i64 ((j : Int) + 1) ∧ q = .string ⟨(lessL L j).toArray⟩) (fun _ i => p + 1 - (RowKit.intOf i).toNat)
  case atStart => exact ⟨0, Nat.zero_le _, rfl, rfl⟩
  case round =>
    obtain ⟨j, hj, rfl, rfl⟩ := hrel
    have hll := lessL_length H16.out j
    by_cases hlt : j < p
    · have hcj := HC.out (j + 1) (by rw [HL.out]; omega)
      have hlj := H16.out (j + 1)
      have hle : lessL L (j + 1) = lessL L j ++ 47 :: L.getD (j + 1) [] := rfl
      generalize L.getD (j + 1) [] = u at hcj hlj hle
      have HLE := Lib.hid hle
      clear hle
      generalize lessL L j = q at hll HLE
      go_wp2
      exact ⟨⟨j + 1, by omega, rfl, by rw [HLE.out]; exact congrArg Value.string (bytes3 q u)⟩, by simp [RowKit.intOf]; omega⟩
    · obtain rfl : j = p := by omega
      have hls := parts_less H5.out j (by omega)
      generalize lessL L j = q at hll hls
      have HLS := Lib.hid hls
      clear hls c0
      go_wp2
      go_loop [17, 18, 19] (fun o i _ => ∃ n : Nat, n ≤ 5 ∧ i = .int .i64 n ∧ o = .string ⟨(otherL L (j + 1) n).toArray⟩) (fun _ i _ => 5 - (RowKit.intOf i).toNat)
      case atStart => exact ⟨0, Nat.zero_le _, rfl, rfl⟩
      case round =>
        obtain ⟨n, hn, rfl, rfl⟩ := hrel
        have hol := otherL_length (k := j + 1) H16.out n
        by_cases hlt5 : n < 5
        · have hcn := HC.out n (by rw [HL.out]; omega)
          have hln := H16.out n
          have hoe : otherL L (j + 1) (n + 1) = otherL L (j + 1) n ++ (otherP L (j + 1) n ++ if n < 4 then [47] else []) := rfl
          by_cases hk : n = j + 1
          · have hkb : ((n : Int) == 1 + j) = true := beq_iff_eq.2 (by omega)
            rw [otherP, if_pos hk] at hoe
            clear hk
            by_cases h4 : n < 4
            · rw [if_pos h4] at hoe
              generalize L.getD n [] = u at hcn hln hoe
              generalize otherL L (j + 1) n = o at hol hoe
              have HO := Lib.hid hoe
              clear hoe
              go_wp2
              go_round
              case rel => exact ⟨n + 1, by omega, rfl, by rw [HO.out]; exact congrArg Value.string (bytes4 o u)⟩
              case measure => simp [RowKit.intOf]; omega
            · rw [if_neg h4] at hoe
              generalize L.getD n [] = u at hcn hln hoe
              generalize otherL L (j + 1) n = o at hol hoe
              have HO := Lib.hid hoe
              clear hoe
              go_wp2
              go_round
              case rel => exact ⟨n + 1, by omega, rfl, by rw [HO.out]; exact congrArg Value.string (bytes5 o u)⟩
              case measure => simp [RowKit.intOf]; omega
          · have hkb : ((n : Int) == 1 + j) = false := beq_eq_false_iff_ne.2 (by omega)
            rw [otherP, if_neg hk] at hoe
            clear hk
            by_cases h4 : n < 4
            · rw [if_pos h4] at hoe
              generalize L.getD n [] = u at hcn hln hoe
              generalize otherL L (j + 1) n = o at hol hoe
              have HO := Lib.hid hoe
              clear hoe
              go_wp2
              go_round
              case rel => exact ⟨n + 1, by omega, rfl, by rw [HO.out]; exact congrArg Value.string (bytes6 o u)⟩
              case measure => simp [RowKit.intOf]; omega
            · rw [if_neg h4] at hoe
              generalize L.getD n [] = u at hcn hln hoe
              generalize otherL L (j + 1) n = o at hol hoe
              have HO := Lib.hid hoe
              clear hoe
              go_wp2
              go_round
              case rel => exact ⟨n + 1, by omega, rfl, by rw [HO.out]; exact congrArg Value.string (bytes7 o u)⟩
              case measure => simp [RowKit.intOf]; omega
        · obtain rfl : n = 5 := by omega
          have ho := parts_other H5.out (k := j + 1) (by omega)
          generalize otherL L (j + 1) 5 = o at hol ho
          have M1 := Lib.hid (less_no H5.out HX.out (by omega) HLS.out)
          have M2 := Lib.hid (less_hash H5.out HX.out (by omega) HLS.out)
          have M3 := Lib.hid (more_no H5.out HX.out)
          have M4 := Lib.hid (other_no H5.out HX.out (by omega) ho)
          have M5 := Lib.hid (back_no H5.out HX.out (by omega) HLS.out)
          clear ho HLS HX H5 HC HL H16
          go_wp2_with fail
          refine (match_of M1.out (by omega) (by omega) _).mono ?_
          rintro e w6 ⟨rfl, hb6⟩
          have B6 := hB'.trans (hb6.mono hB'.size)
          clear hb6
          go_wp2_with fail
          rw [show (⟨q.toArray⟩ : ByteArray) ++ ⟨#[47, 35]⟩ = ⟨(q ++ [47, 35]).toArray⟩ from bytes_append q [47, 35]]
          refine (match_of M2.out (by rw [List.length_append]; simp; omega) (by omega) _).mono ?_
          rintro e w7 ⟨rfl, hb7⟩
          have B7 := B6.trans (hb7.mono B6.size)
          clear hb7
          go_wp2_with fail
          rw [show (⟨x.toArray⟩ : ByteArray) ++ ⟨#[47, 43]⟩ = ⟨(x ++ [47, 43]).toArray⟩ from bytes_append x [47, 43]]
          refine (match_of M3.out (by rw [List.length_append]; simp; omega) (by omega) _).mono ?_
          rintro e w8 ⟨rfl, hb8⟩
          have B8 := B7.trans (hb8.mono B7.size)
          clear hb8
          go_wp2_with fail
          refine (match_of M4.out (by omega) (by omega) _).mono ?_
          rintro e w9 ⟨rfl, hb9⟩
          have B9 := B8.trans (hb9.mono B8.size)
          clear hb9
          go_wp2_with fail
          refine (match_of M5.out (by omega) (by omega) _).mono ?_
          rintro e w10 ⟨rfl, hb10⟩
          have B10 := B9.trans (hb10.mono B9.size)
          clear hb10
          go_wp2
          go_ret
          exact ⟨rfl, B10⟩

end Go.Proofs.YtffkmcohbdgnbaaDoor
