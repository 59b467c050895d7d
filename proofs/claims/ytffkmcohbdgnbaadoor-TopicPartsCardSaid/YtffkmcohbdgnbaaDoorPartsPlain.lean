/-
  Plain: what a filter of a topic's text with parts left out, or one more, or another one, answers.
-/
import Derived.Test.YtffkmcohbdgnbaaDoorApart
namespace Go.Proofs.YtffkmcohbdgnbaaDoor
open Go Go.RowKit Go.Shelf Go.Lib

theorem parts_append : ∀ (a r : List UInt8), parts (a ++ 47 :: r) = parts a ++ parts r
  | [], r => by rw [List.nil_append]; exact parts_slash [] r (by simp)
  | c :: a, r => by
    have ih := parts_append a r
    by_cases hc : c = 47
    · rw [List.cons_append, parts, if_pos hc, ih, parts, if_pos hc]; rfl
    · obtain ⟨q, qs, e1, e2⟩ := parts_cons_ne c (a ++ 47 :: r) hc
      obtain ⟨q', qs', e3, e4⟩ := parts_cons_ne c a hc
      rw [List.cons_append, e2, e4]
      rw [ih, e3, List.cons_append] at e1
      cases e1
      rfl

theorem count_parts : ∀ (l : List UInt8), countByte l 47 + 1 = (parts l).length
  | [] => rfl
  | c :: r => by
    have ih := count_parts r
    unfold countByte at ih ⊢
    by_cases hc : c = 47
    · rw [parts, if_pos hc, hc, List.count_cons_self, List.length_cons]; omega
    · obtain ⟨q, qs, e1, e2⟩ := parts_cons_ne c r hc
      rw [e2, List.count_cons_of_ne hc, ih, e1]; rfl

theorem matchB_eq (f n : List UInt8) : matchB f n = matchFrom (parts n) ((parts f).length - 1) 0 (parts f) := by
  have := count_parts f
  rw [matchB, show countByte f 47 = (parts f).length - 1 by omega]

/-- Parts that are the same, and no hash, are passed. -/
theorem match_skip (ns : List (List UInt8)) (last : Nat) : ∀ (d i : Nat) (fs : List (List UInt8)), d ≤ fs.length → (∀ j, j < d → fs.getD j [] ≠ [35] ∧ i + j < ns.length ∧ fs.getD j [] = ns.getD (i + j) []) →
    matchFrom ns last i fs = matchFrom ns last (i + d) (fs.drop d)
  | 0, i, fs, _, _ => by simp
  | d + 1, i, [], h, _ => by simp at h
  | d + 1, i, f :: fs, h, hs => by
    obtain ⟨h1, h2, h3⟩ := hs 0 (by omega)
    have e1 : f ≠ [35] := h1
    have e3 : f = ns.getD i [] := h3
    rw [matchFrom, if_neg (fun e => e1 e.1), if_neg (fun e => e.elim (fun e => by omega) (fun e => e.2 e3))]
    rw [match_skip ns last d (i + 1) fs (by simpa using h) (fun j hj => by
      obtain ⟨a, b, c⟩ := hs (j + 1) (by omega)
      exact ⟨by simpa using a, by omega, by rw [show i + 1 + j = i + (j + 1) by omega]; simpa using c⟩)]
    rw [show i + 1 + d = i + (d + 1) by omega]; rfl

/-- What is asked of a topic's five parts: no hash, no plus, none empty, no slash. -/
structure Five (L : List (List UInt8)) : Prop where
  len : L.length = 5
  hash : ∀ j, j < 5 → L.getD j [] ≠ [35]
  plain : ∀ j, j < 5 → 47 ∉ L.getD j []
  some : ∀ j, j < 5 → L.getD j [] ≠ []

theorem take_getD (L : List (List UInt8)) (k j : Nat) (h : j < k) : (L.take k).getD j [] = L.getD j [] := by
  simp [List.getD_eq_getElem?_getD, h]

section
variable {L : List (List UInt8)} (h : Five L) {x : List UInt8} (hx : parts x = L) {k : Nat}
include h hx

/-- Parts left out behind. -/
theorem less_no (hk4 : k ≤ 4) {l : List UInt8} (hl : parts l = L.take k) : matchB l x = false := by
  have hlen := h.len
  rw [matchB_eq, hl, hx, match_skip L _ k 0 (L.take k) (by simp; omega) (fun j hj => by
    rw [take_getD L k j hj, Nat.zero_add]; exact ⟨h.hash j (by omega), by omega, rfl⟩)]
  rw [List.drop_of_length_le (by rw [List.length_take]; omega), matchFrom]
  simp; omega

theorem less_hash (hk4 : k ≤ 4) {l : List UInt8} (hl : parts l = L.take k) : matchB (l ++ [47, 35]) x = true := by
  have hlen := h.len
  have hp : parts (l ++ [47, 35]) = L.take k ++ [[35]] := by rw [parts_append, hl]; rfl
  have ht : (L.take k).length = k := by simp; omega
  rw [matchB_eq, hp, hx, match_skip L _ k 0 _ (by simp; omega) (fun j hj => by
    have e : (L.take k ++ [[35]]).getD j [] = L.getD j [] := by
      rw [List.getD_eq_getElem?_getD, List.getElem?_append_left (by omega), ← List.getD_eq_getElem?_getD, take_getD L k j hj]
    rw [e, Nat.zero_add]; exact ⟨h.hash j (by omega), by omega, rfl⟩)]
  rw [List.drop_append_of_le_length (by omega), List.drop_of_length_le (by omega), List.nil_append, matchFrom, if_pos ⟨rfl, by rw [List.length_append, ht]; simp⟩]

theorem more_no : matchB (x ++ [47, 43]) x = false := by
  have hlen := h.len
  have hp : parts (x ++ [47, 43]) = L ++ [[43]] := by rw [parts_append, hx]; rfl
  rw [matchB_eq, hp, hx, match_skip L _ 5 0 _ (by simp; omega) (fun j hj => by
    have e : (L ++ [[43]]).getD j [] = L.getD j [] := by
      rw [List.getD_eq_getElem?_getD, List.getElem?_append_left (by omega), ← List.getD_eq_getElem?_getD]
    rw [e, Nat.zero_add]; exact ⟨h.hash j hj, by omega, rfl⟩)]
  rw [List.drop_append_of_le_length (by omega), List.drop_of_length_le (by omega), List.nil_append, matchFrom, if_neg (fun e => by simp at e), if_pos (.inl (by omega))]

theorem other_no (hk4 : k ≤ 4) {o : List UInt8} (ho : parts o = L.set k (L.getD k [] ++ [43])) : matchB o x = false := by
  have hlen := h.len
  have hs : ∀ j, j < k → (L.set k (L.getD k [] ++ [43])).getD j [] = L.getD j [] := fun j hj => by
    rw [List.getD_eq_getElem?_getD, List.getElem?_set_ne (by omega), ← List.getD_eq_getElem?_getD]
  rw [matchB_eq, ho, hx, match_skip L _ k 0 _ (by simp; omega) (fun j hj => by
    rw [hs j hj, Nat.zero_add]; exact ⟨h.hash j (by omega), by omega, rfl⟩)]
  have hd : (L.set k (L.getD k [] ++ [43])).drop k = (L.getD k [] ++ [43]) :: (L.set k (L.getD k [] ++ [43])).drop (k + 1) := by
    rw [List.drop_eq_getElem_cons (by simp; omega)]; simp
  have hne := h.some k (by omega)
  have h1 : L.getD k [] ++ [43] ≠ [35] := fun e => by
    cases hq : L.getD k [] with
    | nil => exact hne hq
    | cons a r => rw [hq] at e; simp at e
  have h2 : L.getD k [] ++ [43] ≠ [43] := fun e => by
    cases hq : L.getD k [] with
    | nil => exact hne hq
    | cons a r => rw [hq] at e; simp at e
  have h3 : L.getD k [] ++ [43] ≠ L.getD k [] := fun e => by
    have := congrArg List.length e; simp at this
  rw [hd, matchFrom, if_neg (fun e => h1 e.1), if_pos (.inr ⟨h2, by rw [Nat.zero_add]; exact h3⟩)]

theorem back_no (hk4 : k ≤ 4) {l : List UInt8} (hl : parts l = L.take k) : matchB x l = false := by
  have hlen := h.len
  have ht : (L.take k).length = k := by simp; omega
  rw [matchB_eq, hl, hx, match_skip (L.take k) _ k 0 L (by omega) (fun j hj => by
    rw [Nat.zero_add, take_getD L k j hj]; exact ⟨h.hash j (by omega), by omega, rfl⟩)]
  rw [List.drop_eq_getElem_cons (by omega), matchFrom, if_neg (fun e => h.hash k (by omega) (by rw [List.getD_eq_getElem?_getD, List.getElem?_eq_getElem (by omega)]; exact e.1)), if_pos (.inl (by omega))]
end

/-! The two texts that the law makes. -/
def lessL (L : List (List UInt8)) : Nat → List UInt8
  | 0 => L.getD 0 []
  | j + 1 => lessL L j ++ 47 :: L.getD (j + 1) []

theorem parts_less {L : List (List UInt8)} (h : Five L) : ∀ (j : Nat), j < 5 → parts (lessL L j) = L.take (j + 1)
  | 0, _ => by
    have hlen := h.len
    rw [lessL, parts_plain _ (h.plain 0 (by omega))]
    match L, hlen with
    | a :: r, _ => rfl
  | j + 1, hj => by
    have hlen := h.len
    rw [lessL, parts_append, parts_less h j (by omega), parts_plain _ (h.plain (j + 1) hj), List.take_succ_eq_append_getElem (i := j + 1) (by omega)]
    rw [List.getD_eq_getElem?_getD, List.getElem?_eq_getElem (by omega)]; rfl

theorem lessL_length {L : List (List UInt8)} (hs : ∀ j, (L.getD j []).length ≤ 16) : ∀ j, (lessL L j).length ≤ 17 * (j + 1)
  | 0 => by have := hs 0; rw [lessL]; omega
  | j + 1 => by
    have := hs (j + 1)
    have := lessL_length hs j
    rw [lessL, List.length_append, List.length_cons]; omega

/-- The part of place j with a plus behind at place k. -/
def otherP (L : List (List UInt8)) (k j : Nat) : List UInt8 := if j = k then L.getD j [] ++ [43] else L.getD j []
def otherL (L : List (List UInt8)) (k : Nat) : Nat → List UInt8
  | 0 => []
  | j + 1 => otherL L k j ++ (otherP L k j ++ if j < 4 then [47] else [])

theorem otherL_length {L : List (List UInt8)} {k : Nat} (hs : ∀ j, (L.getD j []).length ≤ 16) : ∀ j, (otherL L k j).length ≤ 18 * j
  | 0 => by simp [otherL]
  | j + 1 => by
    have h0 := hs j
    have h1 := otherL_length (k := k) hs j
    have h2 : (otherP L k j).length ≤ 17 := by
      unfold otherP
      by_cases e : j = k
      · rw [if_pos e, List.length_append]; simp only [List.length_cons, List.length_nil]; omega
      · rw [if_neg e]; omega
    have h3 : (if j < 4 then [(47 : UInt8)] else []).length ≤ 1 := by
      by_cases e : j < 4
      · rw [if_pos e]; exact Nat.le_refl _
      · rw [if_neg e]; exact Nat.zero_le _
    rw [otherL, List.length_append, List.length_append]
    omega

theorem parts_other {L : List (List UInt8)} (h : Five L) {k : Nat} (hk : k ≤ 4) : parts (otherL L k 5) = L.set k (L.getD k [] ++ [43]) := by
  have hlen := h.len
  have hp : ∀ j, j < 5 → 47 ∉ otherP L k j := fun j hj hm => by
    have := h.plain j hj
    unfold otherP at hm
    by_cases e : j = k
    · rw [if_pos e] at hm; simp at hm; exact this (by simpa using hm)
    · rw [if_neg e] at hm; exact this hm
  have e : otherL L k 5 = otherP L k 0 ++ 47 :: (otherP L k 1 ++ 47 :: (otherP L k 2 ++ 47 :: (otherP L k 3 ++ 47 :: otherP L k 4))) := by
    simp [otherL]
  rw [e, parts_slash _ _ (hp 0 (by omega)), parts_slash _ _ (hp 1 (by omega)), parts_slash _ _ (hp 2 (by omega)), parts_slash _ _ (hp 3 (by omega)), parts_plain _ (hp 4 (by omega))]
  match L, hlen with
  | [a, b, c, d, e], _ =>
    have hk' : k = 0 ∨ k = 1 ∨ k = 2 ∨ k = 3 ∨ k = 4 := by omega
    rcases hk' with rfl | rfl | rfl | rfl | rfl <;> simp [otherP]

end Go.Proofs.YtffkmcohbdgnbaaDoor
