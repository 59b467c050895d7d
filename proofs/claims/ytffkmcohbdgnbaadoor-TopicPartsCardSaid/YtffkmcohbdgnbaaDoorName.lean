/-
  topic.Name, topic.kind and topic.Print of the program: what they return.
-/
import Derived.Shelf.Strings.SlTrimAscii
import Derived.Test.YtffkmcohbdgnbaaDoorShelf
import Derived.Test.YtffkmcohbdgnbaaDoorCollect
namespace Go.Proofs.YtffkmcohbdgnbaaDoor
open Go Go.RowKit Go.Shelf Go.Lib

/-- The bytes that a name may have, in the program's order. -/
def cutset : List UInt8 := [97, 98, 99, 100, 101, 102, 103, 104, 105, 106, 107, 108, 109, 110, 111, 112, 113, 114, 115, 116, 117, 118, 119, 120, 121, 122, 65, 66, 67, 68, 69, 70, 71, 72, 73, 74, 75, 76, 77, 78, 79, 80, 81, 82, 83, 84, 85, 86, 87, 88, 89, 90, 48, 49, 50, 51, 52, 53, 54, 55, 56, 57, 95, 46, 58, 45]

/-- topic.Name. -/
def nameB (l : List UInt8) : Bool := (trimLeftS l cutset).isEmpty && (!l.isEmpty && decide (l.length ≤ 16))

theorem indexSaid : IndexSaid := fun s w => Tryd.strings_Index_one s 47 w

theorem info52 : (Tryd.prog.info? 52).map (fun i => (i.zero, i.size)) = some (some (.agg (Array.replicate 256 (.bool false))), 256) := by kernel_rfl

theorem cutset_ascii : ∀ (j : Nat) b, cutset[j]? = some b → b.toNat < 128 := by
  intro j b h
  have hm := List.mem_of_getElem? h
  have ha : cutset.all (fun b => decide (b.toNat < 128)) = true := by decide +kernel
  exact of_decide_eq_true (List.all_eq_true.1 ha b hm)

theorem trim_any (s : ByteArray) (w : World) :
    Calls Tryd.prog 14 #[.string s, .string ⟨cutset.toArray⟩] w fun e w' => e = .returned (.string ⟨(trimLeftS s.data.toList cutset).toArray⟩) ∧ Below w.heap.size w w' :=
  Any.strings_TrimLeft_laid Tryd.lays161 info52 s ⟨cutset.toArray⟩ w (by decide +kernel) (fun j b h => cutset_ascii j b (by simpa using h))

set_option maxRecDepth 100000 in
set_option maxHeartbeats 1000000 in
theorem name_any (s : ByteArray) (hs : s.size ≤ 9223372036854775807) (w : World) :
    Calls Tryd.prog 9 #[.string s] w fun e w' => e = .returned (.bool (nameB s.data.toList)) ∧ Below w.heap.size w w' := by
  have ht := Lib.hid (trim_any s w)
  go_enter Tryd.func9, Tryd.ntmps9
  go_wp2_with (go_at_call 14; refine ht.out.mono ?_; rintro e w' ⟨rfl, hb⟩)
  · have h1 : trimLeftS s.data.toList cutset = [] := by assumption
    have h2 : s.toList = [] := by assumption
    rw [toList_data] at h2
    go_ret
    exact ⟨congrArg (fun b => Ending.returned (.bool b)) (by simp [nameB, h2]), hb⟩
  · have h1 : trimLeftS s.data.toList cutset = [] := by assumption
    have h2 : decide ((s.size : Int) ≤ 16) = decide (s.data.toList.length ≤ 16) := decide_eq_decide.2 (by rw [← size_eq]; omega)
    go_ret
    exact ⟨congrArg (fun b => Ending.returned (.bool b)) (by rw [nameB, h1, toList_data, h2]; rfl), hb⟩
  · have h1 : ¬ trimLeftS s.data.toList cutset = [] := by assumption
    have h2 : (trimLeftS s.data.toList cutset).isEmpty = false := by simpa using h1
    go_ret
    exact ⟨congrArg (fun b => Ending.returned (.bool b)) (by rw [nameB, h2]; rfl), hb⟩

/-- The kinds of topics. -/
def kinds : List (List UInt8) := [[111, 114, 100, 101, 114], [105, 110, 115, 116, 97, 110, 116, 65, 99, 116, 105, 111, 110, 115], [115, 116, 97, 116, 101], [99, 111, 110, 110, 101, 99, 116, 105, 111, 110], [118, 105, 115, 117, 97, 108, 105, 122, 97, 116, 105, 111, 110]]
def kindB (l : List UInt8) : Bool := containsS (kinds.map fun x => (⟨x.toArray⟩ : ByteArray)) ⟨l.toArray⟩

theorem cell_new_at (w : World) (xs : Array Value) (t : TypeId) (j : Nat) : (w.alloc (.cells xs t)).cell? ⟨w.heap.size, j, none⟩ = xs[j]? := by
  unfold World.cell?
  rw [show (w.alloc (.cells xs t)).heap[(⟨w.heap.size, j, none⟩ : Addr).block]? = _ from World.alloc_heap_new w _]
  rfl

set_option maxRecDepth 100000 in
set_option maxHeartbeats 1000000 in
theorem kind_any (s : ByteArray) (w : World) :
    Calls Tryd.prog 15 #[.string s] w fun e w' => e = .returned (.bool (kindB s.data.toList)) ∧ Below w.heap.size w w' := by
  go_enter Tryd.func15, Tryd.ntmps15
  go_wp2_with (go_at_call 25; refine (Tryd.slices_Contains_string w.heap.size 0 5 5 (kinds.map fun x => (⟨x.toArray⟩ : ByteArray)) s _ (by decide) (by decide) ?_).mono ?_)
  · intro j hj
    have hj' : j = 0 ∨ j = 1 ∨ j = 2 ∨ j = 3 ∨ j = 4 := by simp [kinds] at hj; omega
    rcases hj' with rfl | rfl | rfl | rfl | rfl
    all_goals (rw [cell_new_at]; rfl)
  · rintro e w' ⟨rfl, rfl⟩
    go_wp2
    go_ret
    exact ⟨rfl, (Below.refl _ _).alloc (Nat.le_refl _) _⟩

theorem box3 {w w1 : World} {a b c : Value} {t : TypeId} (h : Below (w.alloc (.cells #[a, b, c] t)).heap.size (w.alloc (.cells #[a, b, c] t)) w1) :
    w1.cell? ⟨w.heap.size, 0, none⟩ = some a ∧ w1.cell? ⟨w.heap.size, 1, none⟩ = some b ∧ w1.cell? ⟨w.heap.size, 2, none⟩ = some c :=
  ⟨(h.cell (p := ⟨w.heap.size, 0, none⟩) (by simp)).trans (cell_new_at _ _ _ _), (h.cell (p := ⟨w.heap.size, 1, none⟩) (by simp)).trans (cell_new_at _ _ _ _), (h.cell (p := ⟨w.heap.size, 2, none⟩) (by simp)).trans (cell_new_at _ _ _ _)⟩

theorem bytes_append (a b : List UInt8) : (⟨a.toArray⟩ : ByteArray) ++ ⟨b.toArray⟩ = ⟨(a ++ b).toArray⟩ := by
  rw [ByteArray.ext_iff]; simp

/-- A topic's text. -/
def headL : List UInt8 := [117, 97, 103, 118, 47, 118, 50, 47]
def topicL (m s k : List UInt8) : List UInt8 := headL ++ (m ++ (47 :: (s ++ (47 :: k))))
def rightT (m s k : List UInt8) : Bool := nameB m && (nameB s && kindB k)

theorem nameB_size {l : List UInt8} (h : nameB l = true) : l.length ≤ 16 := by
  unfold nameB at h
  simp only [Bool.and_eq_true, decide_eq_true_eq] at h
  exact h.2.2

theorem kindB_size {l : List UInt8} (h : kindB l = true) : l.length ≤ 16 := by
  unfold kindB at h
  rw [containsS_iff] at h
  simp only [kinds, List.map_cons, List.map_nil, List.mem_cons, List.not_mem_nil, or_false] at h
  rcases h with h | h | h | h | h
  all_goals
    have := congrArg (fun b : ByteArray => b.data.toList.length) h
    simp at this
    omega

set_option maxRecDepth 100000 in
set_option maxHeartbeats 2000000 in
theorem print_yes (m s k : ByteArray) (w : World) (h : rightT m.data.toList s.data.toList k.data.toList = true) :
    Calls Tryd.prog 11 #[.agg #[.string m, .string s, .string k]] w fun e w' => e = .returned (.tuple #[.string ⟨(topicL m.data.toList s.data.toList k.data.toList).toArray⟩, .int .i64 0]) ∧ Below w.heap.size w w' := by
  simp only [rightT, Bool.and_eq_true] at h
  obtain ⟨h1, h2, h3⟩ := h
  have zm : m.size ≤ 16 := by rw [size_eq]; exact nameB_size h1
  have zs : s.size ≤ 16 := by rw [size_eq]; exact nameB_size h2
  have zk : k.size ≤ 16 := by rw [size_eq]; exact kindB_size h3
  have H1 := Lib.hid h1
  have H2 := Lib.hid h2
  have H3 := Lib.hid h3
  clear h1 h2 h3
  go_enter Tryd.func11, Tryd.ntmps11
  go_wp2_with fail
  refine (name_any m (by omega) _).mono ?_
  rw [H1.out]
  rintro e w1 ⟨rfl, hb1⟩
  obtain ⟨c0, c1, c2⟩ := box3 hb1
  go_wp2_with fail
  refine (name_any s (by omega) _).mono ?_
  rw [H2.out]
  rintro e w2 ⟨rfl, hb2⟩
  have hb12 := hb1.trans (hb2.mono hb1.size)
  obtain ⟨d0, d1, d2⟩ := box3 hb12
  clear c0 c1 c2
  go_wp2_with fail
  refine (kind_any k _).mono ?_
  rw [H3.out]
  rintro e w3 ⟨rfl, hb3⟩
  have hb13 := hb12.trans (hb3.mono hb12.size)
  obtain ⟨e0, e1, e2⟩ := box3 hb13
  clear d0 d1 d2
  go_wp2_with fail
  have hj : (Lib.join ([m, s, k].map (·.data.toList)) (⟨#[47]⟩ : ByteArray).data.toList).length ≤ 50 := by
    simp [Lib.join, List.intercalate]; simp only [size_eq] at zm zs zk; simp at zm zs zk; omega
  have hjv : Lib.join ([m, s, k].map (·.data.toList)) (⟨#[47]⟩ : ByteArray).data.toList = m.data.toList ++ (47 :: (s.data.toList ++ (47 :: k.data.toList))) := by
    simp [Lib.join, List.intercalate]
  refine (Tryd.strings_Join w3.heap.size 0 3 [m, s, k] ⟨#[47]⟩ _ ?_ (by simp) (by simp) (by simp) (by omega)).mono ?_
  · intro j x hx
    have hj' : j = 0 ∨ j = 1 ∨ j = 2 := by have := (List.getElem?_eq_some_iff.1 hx).1; simp at this; omega
    rcases hj' with rfl | rfl | rfl
    all_goals (rw [cell_new_at]; simp at hx; subst hx; rfl)
  · generalize Lib.join ([m, s, k].map (·.data.toList)) (⟨#[47]⟩ : ByteArray).data.toList = jl at hj hjv ⊢
    have HJ := Lib.hid hjv
    clear hjv
    rintro e w4 ⟨rfl, hb4⟩
    go_wp2
    go_ret2
    have hs0 := hb13.size
    have h0 : Below w.heap.size w w3 := ((Below.refl _ w).alloc (Nat.le_refl _) _).trans (hb13.mono (by simp))
    refine ⟨?_, (h0.alloc (by have := h0.size; omega) _).trans (hb4.mono (by have := h0.size; simp; omega))⟩
    rw [topicL, ← HJ.out]
    exact congrArg (fun x => Ending.returned (.tuple #[.string x, .int .i64 0])) (bytes_append headL jl)

set_option maxRecDepth 100000 in
set_option maxHeartbeats 2000000 in
theorem print_no (m s k : ByteArray) (hm : m.size ≤ 9223372036854775807) (hs : s.size ≤ 9223372036854775807) (w : World) (h : rightT m.data.toList s.data.toList k.data.toList = false) :
    Calls Tryd.prog 11 #[.agg #[.string m, .string s, .string k]] w fun e w' => e = .returned (.tuple #[.string ⟨#[]⟩, .int .i64 70]) ∧ Below w.heap.size w w' := by
  have b0 : ∀ (w1 : World), Below (w.alloc (.cells #[.string m, .string s, .string k] 30)).heap.size (w.alloc (.cells #[.string m, .string s, .string k] 30)) w1 → Below w.heap.size w w1 :=
    fun _ hb => ((Below.refl _ w).alloc (Nat.le_refl _) _).trans (hb.mono (by simp))
  have B0 := Lib.hid b0
  clear b0
  cases h1 : nameB m.data.toList with
  | false =>
    have H1 := Lib.hid h1
    clear h1 h
    go_enter Tryd.func11, Tryd.ntmps11
    go_wp2_with fail
    refine (name_any m hm _).mono ?_
    rw [H1.out]
    rintro e w1 ⟨rfl, hb1⟩
    go_wp2
    go_ret2
    exact ⟨rfl, B0.out _ hb1⟩
  | true =>
  cases h2 : nameB s.data.toList with
  | false =>
    have H1 := Lib.hid h1
    have H2 := Lib.hid h2
    clear h1 h2 h
    go_enter Tryd.func11, Tryd.ntmps11
    go_wp2_with fail
    refine (name_any m hm _).mono ?_
    rw [H1.out]
    rintro e w1 ⟨rfl, hb1⟩
    obtain ⟨c0, c1, c2⟩ := box3 hb1
    go_wp2_with fail
    refine (name_any s hs _).mono ?_
    rw [H2.out]
    rintro e w2 ⟨rfl, hb2⟩
    have hb12 := hb1.trans (hb2.mono hb1.size)
    clear c0 c1 c2
    go_wp2
    go_ret2
    exact ⟨rfl, B0.out _ hb12⟩
  | true =>
    have h3 : kindB k.data.toList = false := by simpa [rightT, h1, h2] using h
    have H1 := Lib.hid h1
    have H2 := Lib.hid h2
    have H3 := Lib.hid h3
    clear h1 h2 h3 h
    go_enter Tryd.func11, Tryd.ntmps11
    go_wp2_with fail
    refine (name_any m hm _).mono ?_
    rw [H1.out]
    rintro e w1 ⟨rfl, hb1⟩
    obtain ⟨c0, c1, c2⟩ := box3 hb1
    go_wp2_with fail
    refine (name_any s hs _).mono ?_
    rw [H2.out]
    rintro e w2 ⟨rfl, hb2⟩
    have hb12 := hb1.trans (hb2.mono hb1.size)
    obtain ⟨d0, d1, d2⟩ := box3 hb12
    clear c0 c1 c2
    go_wp2_with fail
    refine (kind_any k _).mono ?_
    rw [H3.out]
    rintro e w3 ⟨rfl, hb3⟩
    have hb13 := hb12.trans (hb3.mono hb12.size)
    clear d0 d1 d2
    go_wp2
    go_ret2
    exact ⟨rfl, B0.out _ hb13⟩

end Go.Proofs.YtffkmcohbdgnbaaDoor
