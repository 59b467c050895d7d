/-
  Plain: a text's parts between slashes, and what the topic's functions compute, as functions on lists of bytes.
-/
import Derived.Lib.Bytealg
import Derived.Lib.IndexLaws
import Derived.Lib.Strings
import Derived.Lib.Join
namespace Go.Proofs.YtffkmcohbdgnbaaDoor
open Go

/-- A text's parts, between slashes (byte 47). -/
def parts : List UInt8 → List (List UInt8)
  | [] => [[]]
  | c :: r => if c = 47 then [] :: parts r else
    match parts r with
    | p :: ps => (c :: p) :: ps
    | [] => [[c]]

theorem parts_ne (l : List UInt8) : parts l ≠ [] := by
  cases l with
  | nil => simp [parts]
  | cons c r =>
    unfold parts
    split
    · simp
    · split <;> simp

theorem parts_cons_ne (c : UInt8) (r : List UInt8) (h : c ≠ 47) : ∃ p ps, parts r = p :: ps ∧ parts (c :: r) = (c :: p) :: ps := by
  cases hp : parts r with
  | nil => exact absurd hp (parts_ne r)
  | cons p ps => exact ⟨p, ps, rfl, by rw [parts, if_neg h, hp]⟩

theorem parts_none : ∀ (l : List UInt8), Lib.indexByte l 47 = -1 → parts l = [l]
  | [], _ => rfl
  | c :: r, h => by
    unfold Lib.indexByte at h
    by_cases hc : (c == 47) = true
    · rw [if_pos hc] at h; omega
    · rw [if_neg hc] at h
      have hc' : c ≠ 47 := by simpa using hc
      by_cases hr : (Lib.indexByte r 47 == -1) = true
      · obtain ⟨p, ps, e1, e2⟩ := parts_cons_ne c r hc'
        rw [parts_none r (by simpa using hr)] at e1
        cases e1
        exact e2
      · rw [if_neg hr] at h
        have := Lib.indexByte_ge r 47
        have : Lib.indexByte r 47 ≠ -1 := by simpa using hr
        omega

theorem parts_some : ∀ (l : List UInt8) (i : Nat), Lib.indexByte l 47 = i → parts l = l.take i :: parts (l.drop (i + 1))
  | [], i, h => by unfold Lib.indexByte at h; omega
  | c :: r, i, h => by
    unfold Lib.indexByte at h
    by_cases hc : (c == 47) = true
    · rw [if_pos hc] at h
      obtain rfl : i = 0 := by omega
      have hc' : c = 47 := by simpa using hc
      rw [parts, if_pos hc']; rfl
    · rw [if_neg hc] at h
      have hc' : c ≠ 47 := by simpa using hc
      by_cases hr : (Lib.indexByte r 47 == -1) = true
      · rw [if_pos hr] at h; omega
      · rw [if_neg hr] at h
        have h0 := Lib.indexByte_ge r 47
        have h1 : Lib.indexByte r 47 ≠ -1 := by simpa using hr
        obtain ⟨j, rfl⟩ : ∃ j, i = j + 1 := ⟨i - 1, by omega⟩
        obtain ⟨p, ps, e1, e2⟩ := parts_cons_ne c r hc'
        rw [parts_some r j (by omega)] at e1
        cases e1
        exact e2

theorem indexByte_lt (l : List UInt8) (c : UInt8) (i : Nat) (h : Lib.indexByte l c = i) : i < l.length := by
  have := (Lib.indexByte_some h).1
  exact (List.getElem?_eq_some_iff.1 this).1

theorem parts_length_pos (l : List UInt8) : 0 < (parts l).length := List.length_pos_iff.2 (parts_ne l)

end Go.Proofs.YtffkmcohbdgnbaaDoor
