/-
  The law TopicNames returns true, whatever it is given.
-/
import Derived.Deep.DeepCutAuto
import Derived.Deep.Cut
import Derived.Test.YtffkmcohbdgnbaaDoorAwake
namespace Go.Proofs.YtffkmcohbdgnbaaDoor
open Go Go.RowKit Go.Shelf Go.Lib

theorem dropWhile_nil (p : UInt8 → Bool) : ∀ (l : List UInt8), l.dropWhile p = [] ↔ ∀ c ∈ l, p c = true
  | [] => by simp
  | a :: r => by
    have ih := dropWhile_nil p r
    cases h : p a with
    | true => simp [h, ih]
    | false => simp [h]

theorem nameB_iff (l : List UInt8) : nameB l = true ↔ (∀ c ∈ l, cutset.contains c = true) ∧ 1 ≤ l.length ∧ l.length ≤ 16 := by
  unfold nameB trimLeftS
  simp only [Bool.and_eq_true, List.isEmpty_iff, decide_eq_true_eq]
  refine and_congr (dropWhile_nil _ _) ⟨fun h => ⟨?_, h.2⟩, fun h => ⟨?_, h.2⟩⟩
  · cases l with
    | nil => simp at h
    | cons a r => simp
  · cases l with
    | nil => simp at h
    | cons a r => rfl

theorem fit1_in (c : UInt8) : cutset.contains (fit1 c) = true := by
  have h : ∀ i : Fin 20, cutset.contains (alphabet.getD i.val 0) = true := by decide +kernel
  exact h ⟨c.toNat % 20, Nat.mod_lt _ (by omega)⟩

theorem fitL_mem (l : List UInt8) : ∀ c ∈ fitL l, cutset.contains c = true := by
  intro c hc
  unfold fitL at hc
  rcases List.mem_cons.1 hc with rfl | hc
  · decide +kernel
  · obtain ⟨d, _, rfl⟩ := List.mem_map.1 hc
    exact fit1_in d

theorem fitL_length (l : List UInt8) : 1 ≤ (fitL l).length ∧ (fitL l).length ≤ 16 := by
  unfold fitL; simp; omega

theorem name_fit (l : List UInt8) : nameB (fitL l) = true := (nameB_iff _).2 ⟨fitL_mem l, fitL_length l⟩

theorem name_long (l : List UInt8) : nameB (fitL l ++ [97, 97, 97, 97, 97, 97, 97, 97, 97, 97, 97, 97, 97, 97, 97, 97]) = false := by
  rw [Bool.eq_false_iff]
  intro h
  have := ((nameB_iff _).1 h).2.2
  have h1 := (fitL_length l).1
  rw [List.length_append, show [97, 97, 97, 97, 97, 97, 97, 97, 97, 97, 97, 97, 97, 97, 97, (97 : UInt8)].length = 16 from rfl] at this
  omega

theorem name_set (l : List UInt8) (p : Nat) (hp : p < (fitL l).length) (c : UInt8) : nameB ((fitL l).set p c) = cutset.contains c := by
  rw [Bool.eq_iff_iff, nameB_iff]
  have hl := fitL_length l
  constructor
  · intro h
    exact h.1 c (List.mem_set hp c)
  · intro h
    refine ⟨fun d hd => ?_, by simpa using hl⟩
    rcases List.mem_or_eq_of_mem_set hd with h1 | h1
    · exact fitL_mem l d h1
    · rw [h1]; exact h

theorem name_of {l : List UInt8} {b : Bool} (h : nameB l = b) (hl : l.length ≤ 1000) (w : World) :
    Calls Tryd.prog 9 #[.string ⟨l.toArray⟩] w fun e w' => e = .returned (.bool b) ∧ Below w.heap.size w w' :=
  (name_any ⟨l.toArray⟩ (by rw [size_mk]; omega) w).mono fun e w' hr => ⟨by rw [hr.1]; exact congrArg (fun b => Ending.returned (.bool b)) h, hr.2⟩

/-- The law's own test of a byte. -/
def mayB (c : Int) : Bool := (decide (97 ≤ c ∧ c ≤ 122)) || (decide (65 ≤ c ∧ c ≤ 90)) || (decide (48 ≤ c ∧ c ≤ 57)) || c == 95 || c == 46 || c == 58 || c == 45

theorem may_cut (c : UInt8) : cutset.contains c = mayB c.toNat := by
  have h : ∀ i : Fin 256, cutset.contains (UInt8.ofNat i.val) = mayB (i.val : Int) := by decide +kernel
  have := h ⟨c.toNat, c.toNat_lt⟩
  rwa [UInt8.ofNat_toNat] at this

set_option maxRecDepth 100000 in
set_option maxHeartbeats 2000000 in
theorem names_calls (s : ByteArray) (hs : s.size ≤ 9223372036854775807) (a : Int) (h1 : -9223372036854775807 ≤ a + 1) (h2 : a ≤ 9223372036854775807) (c : UInt8) (w : World) :
    Calls Tryd.prog 3 #[.string s, .int .i64 a, .int .u8 c.toNat] w fun e w' => e = .returned (.bool true) ∧ Below w.heap.size w w' := by
  have hfl := fitL_length s.data.toList
  have N1 := Lib.hid (name_fit s.data.toList)
  have N2 := Lib.hid (name_long s.data.toList)
  have N3 := Lib.hid (name_set s.data.toList)
  have HC := Lib.hid (may_cut c)
  have hc0 : (0 : Int) ≤ c.toNat := by omega
  have hc1 : (c.toNat : Int) < 256 := by have := c.toNat_lt; omega
  go_enter Tryd.func3, Tryd.ntmps3
  go_wp2_with fail
  refine (awake_any _).mono ?_
  rintro e w1 ⟨rfl, hb1⟩
  go_wp2_with fail
  refine (fit_any s hs _).mono ?_
  generalize fitL s.data.toList = f at hfl N1 N2 N3 ⊢
  rintro e w2 ⟨rfl, hb2⟩
  have hb12 := hb1.trans (hb2.mono hb1.size)
  go_wp2_with fail
  rw [Lib.run_convert_string_bytes (P := Tryd.prog) w2 9 24 5 _ Tryd.underlying9 Tryd.underlying24 Tryd.underlying5, size_mk]
  simp only [Result.andThen]
  rw [Oper.upon_value]
  have hB := bytesWorld_below w2 5 ⟨f.toArray⟩
  have hbc := fun j (hj : j < f.length) => bytesWorld_cell w2 5 ⟨f.toArray⟩ j (by rw [size_mk]; exact hj)
  have hbf := fun j (hj : j < f.length) => bytes_frozen w2 f j hj
  have hz3 := bytesWorld_size w2 5 ⟨f.toArray⟩
  generalize bytesWorld w2 5 ⟨f.toArray⟩ = w3 at hB hbc hbf hz3 ⊢
  have hp := pickZ_range a f.length (by omega)
  obtain ⟨p, hpe⟩ : ∃ p : Nat, pickZ a f.length = p := ⟨(pickZ a f.length).toNat, by omega⟩
  have hpl : p < f.length := by omega
  have HP := Lib.hid hpe
  clear hpe hp
  go_wp2_with fail
  refine (pick_any a f.length h1 h2 (by omega) (by omega) _).mono ?_
  rw [HP.out]
  rintro e w4 ⟨rfl, rfl⟩
  have hcp := hbc p hpl
  have hfp := hbf p hpl
  have HBC := Lib.hid hbc
  clear hbc hbf h1 h2 HP
  go_upto_region 5 with fail
  have hcs : ∀ j, j < f.length → (w4.setCell ⟨w2.heap.size, p, none⟩ (.int .u8 c.toNat)).cell? ⟨w2.heap.size, j, none⟩ = some (.int .u8 (((f.set p c).getD j 0).toNat : Int)) := by
    intro j hj
    by_cases e : j = p
    · subst e
      rw [World.cell?_setCell_same' _ _ _ (by rw [hcp]; rfl)]
      simp [hj]
    · rw [World.cell?_setCell_other _ _ _ _ (by intro h'; cases h'; exact e rfl), HBC.out j hj]
      simp [Ne.symm e]
  have HCS := Lib.hid hcs
  have hB5 : Below w.heap.size w (w4.setCell ⟨w2.heap.size, p, none⟩ (.int .u8 c.toNat)) := (hb12.trans (hB.mono hb12.size)).setCell (p := ⟨w2.heap.size, p, none⟩) hb12.size _
  have hzc : w2.heap.size < (w4.setCell ⟨w2.heap.size, p, none⟩ (.int .u8 c.toNat)).heap.size := by have := (KeepsWalks.setCell w4 ⟨w2.heap.size, p, none⟩ (.int .u8 c.toNat)).size; omega
  clear hcs hcp hfp
  generalize w4.setCell ⟨w2.heap.size, p, none⟩ (.int .u8 c.toNat) = w5 at HCS hB5 hzc ⊢
  generalize (c.toNat : Int) = m at hc0 hc1 HC ⊢
  go_cut [2, 10] (fun q t wx => q = .int .u8 m ∧ t = .bool (mayB m) ∧ wx = w5)
  case first =>
    go_wp2
    all_goals (go_meet; exact ⟨by first | rfl | exact congrArg (Value.int .u8) (by omega), congrArg Value.bool (by
      first
      | (symm; simp only [mayB, Bool.or_eq_true, decide_eq_true_eq, beq_iff_eq]; omega)
      | (rw [Bool.eq_iff_iff]; simp only [mayB, Bool.or_eq_true, decide_eq_true_eq, beq_iff_eq]; omega)), rfl⟩)
  case rest =>
    obtain ⟨rfl, rfl, rfl⟩ := hcut
    clear hc0 hc1 hB hz3 hb1 hb2 hb12
    go_wp2_with fail
    refine (name_any ⟨f.toArray⟩ (by rw [size_mk]; omega) _).mono ?_
    rw [show nameB (⟨f.toArray⟩ : ByteArray).data.toList = true from N1.out]
    rintro e w6 ⟨rfl, hb6⟩
    have B6 := hB5.trans (hb6.mono hB5.size)
    have hback := fun cap => run_convert_bytes_back (P := Tryd.prog) w6 24 9 5 ⟨w2.heap.size, 0, none⟩ cap (f.set p c) Tryd.underlying24 Tryd.underlying5 Tryd.underlying9 (fun j hj => by
      have hj' : j < f.length := by simpa using hj
      rw [add_zero_at, (hb6.cell (p := ⟨w2.heap.size, j, none⟩) hzc).trans (HCS.out j hj'), List.getD_eq_getElem?_getD, List.getElem?_eq_getElem hj]; rfl)
    rw [List.length_set] at hback
    have hn3 : nameB (f.set p c) = mayB m := by rw [N3.out p hpl c, HC.out]
    have hsl : (f.set p c).length = f.length := by simp
    generalize f.set p c = f' at hback hn3 hsl
    have HN := Lib.hid hn3
    have hfl' : f'.length ≤ 16 := by omega
    clear hn3 hsl HCS
    go_wp2_with fail
    clear hback
    refine (name_any ⟨f'.toArray⟩ (by rw [size_mk]; omega) _).mono ?_
    rw [show nameB (⟨f'.toArray⟩ : ByteArray).data.toList = mayB m from HN.out]
    generalize mayB m = b
    rintro e w7 ⟨rfl, hb7⟩
    have B7 := B6.trans (hb7.mono B6.size)
    go_wp2_with fail
    refine (name_any ⟨#[]⟩ (by decide) _).mono ?_
    rw [show nameB (⟨#[]⟩ : ByteArray).data.toList = false from rfl]
    rintro e w8 ⟨rfl, hb8⟩
    have B8 := B7.trans (hb8.mono B7.size)
    go_wp2_with fail
    rw [show (⟨f.toArray⟩ : ByteArray) ++ ⟨#[97, 97, 97, 97, 97, 97, 97, 97, 97, 97, 97, 97, 97, 97, 97, 97]⟩ = ⟨(f ++ [97, 97, 97, 97, 97, 97, 97, 97, 97, 97, 97, 97, 97, 97, 97, 97]).toArray⟩ from bytes_append f _]
    refine (name_of N2.out (by rw [List.length_append]; simp; omega) _).mono ?_
    rintro e w9 ⟨rfl, hb9⟩
    have B9 := B8.trans (hb9.mono B8.size)
    go_wp2
    go_ret
    exact ⟨rfl, B9⟩

end Go.Proofs.YtffkmcohbdgnbaaDoor
