/-
  The law's own helpers: pick, Fit, Topic; and the chapter's examples.
-/
import Derived.Lib.ConvBytes
import Derived.Laws.IdiomStrings
import Derived.Test.YtffkmcohbdgnbaaDoorMatch
namespace Go.Proofs.YtffkmcohbdgnbaaDoor
open Go Go.RowKit Go.Shelf Go.Lib

def pickZ (c n : Int) : Int := (if c < 0 then -(c + 1) else c) % n

theorem pickZ_range (c n : Int) (hn : 0 < n) : 0 ≤ pickZ c n ∧ pickZ c n < n := ⟨Int.emod_nonneg _ (by omega), Int.emod_lt_of_pos _ hn⟩

theorem ret_int {k : IntKind} {a b : Int} (h : a = b) : Ending.returned (.int k a) = .returned (.int k b) := by rw [h]

theorem tmod_pick (c n : Int) (h : c < 0) : (-(c + 1)).tmod n = pickZ c n := by
  rw [pickZ, if_pos h, Int.tmod_eq_emod_of_nonneg (by omega)]

set_option maxRecDepth 100000 in
set_option maxHeartbeats 1000000 in
theorem pick_any (c n : Int) (h1 : -9223372036854775807 ≤ c + 1) (h2 : c ≤ 9223372036854775807) (hn : 1 ≤ n) (hn2 : n ≤ 1000000) (w : World) :
    Calls Tryd.prog 8 #[.int .i64 c, .int .i64 n] w fun e w' => e = .returned (.int .i64 (pickZ c n)) ∧ w' = w := by
  by_cases h : c < 0
  · have ht := tmod_pick c n h
    go_enter Tryd.func8, Tryd.ntmps8
    go_wp2
    go_ret
    exact ⟨rfl, rfl⟩
  · have ht : c % n = pickZ c n := by rw [pickZ, if_neg h]
    go_enter Tryd.func8, Tryd.ntmps8
    go_wp2
    go_ret
    exact ⟨rfl, rfl⟩

def alphabet : List UInt8 := [97, 98, 99, 120, 121, 122, 65, 66, 67, 88, 89, 90, 48, 49, 56, 57, 95, 46, 58, 45]
def fit1 (c : UInt8) : UInt8 := alphabet.getD (c.toNat % 20) 0
def fitL (l : List UInt8) : List UInt8 := 110 :: (l.take 15).map fit1

def mix (x : List UInt8) (k j : Nat) : UInt8 := if 1 ≤ j ∧ j < k then fit1 (x.getD j 0) else x.getD j 0
/-- Behind k rounds: the bytes in block b. -/
def FitAt (b : Nat) (x : List UInt8) (k : Nat) (W : World) : Prop := ∀ j, j < x.length → W.cell? ⟨b, j, none⟩ = some (.int .u8 ((mix x k j).toNat : Int)) ∧ W.frozen? ⟨b, j, none⟩ = false

theorem size_mk (l : List UInt8) : (⟨l.toArray⟩ : ByteArray).size = l.length := by simp [ByteArray.size]

theorem alphabet_at (c : UInt8) (h : ((c.toNat : Int) % 20).toNat < (⟨#[97, 98, 99, 120, 121, 122, 65, 66, 67, 88, 89, 90, 48, 49, 56, 57, 95, 46, 58, 45]⟩ : ByteArray).size) :
    (⟨#[97, 98, 99, 120, 121, 122, 65, 66, 67, 88, 89, 90, 48, 49, 56, 57, 95, 46, 58, 45]⟩ : ByteArray)[((c.toNat : Int) % 20).toNat] = fit1 c := by
  have e : ((c.toNat : Int) % 20).toNat = c.toNat % 20 := by omega
  have hl : c.toNat % 20 < 20 := Nat.mod_lt _ (by omega)
  unfold fit1
  simp only [e]
  have : ∀ i : Fin 20, (⟨#[97, 98, 99, 120, 121, 122, 65, 66, 67, 88, 89, 90, 48, 49, 56, 57, 95, 46, 58, 45]⟩ : ByteArray)[i.val]'(i.isLt) = alphabet.getD i.val 0 := by decide
  exact this ⟨c.toNat % 20, hl⟩

theorem fit_mix (l : List UInt8) : fitL l = (List.range (110 :: l.take 15).length).map (mix (110 :: l.take 15) (110 :: l.take 15).length) := by
  unfold fitL
  apply List.ext_getElem
  · simp
  · intro i h1 h2
    cases i with
    | zero => simp [mix]
    | succ i =>
      have h3 : i < (l.take 15).length := by simpa using h1
      simp only [List.getElem_cons_succ, List.getElem_map, List.getElem_range, mix]
      rw [if_pos ⟨by omega, by simpa using h3⟩]
      rw [List.getD_cons_succ, List.getD_eq_getElem?_getD, List.getElem?_eq_getElem h3]; simp

theorem bytesWorld_below (w : World) (e : TypeId) (s : ByteArray) : Below w.heap.size w (bytesWorld w e s) := by
  have h : w.drew.grownBy (bytesWorld w e s) none := ⟨rfl, rfl, rfl, by simp [bytesWorld_size], fun k hk _ => bytesWorld_at_old w e s k hk⟩
  exact ((Below.refl _ w).drew).grown h (by simp) (fun k e => by cases e)

theorem bytes_frozen (w : World) (x : List UInt8) (j : Nat) (hj : j < x.length) : (bytesWorld w 5 ⟨x.toArray⟩).frozen? ⟨w.heap.size, j, none⟩ = false := by
  unfold World.frozen?
  rw [show (bytesWorld w 5 ⟨x.toArray⟩).heap[(⟨w.heap.size, j, none⟩ : Addr).block]? = _ from bytesWorld_at_new w 5 _]
  have : j < (bytesCells w 5 ⟨x.toArray⟩).size := by simp [bytesCells]; omega
  simp; omega

theorem fitAt_start (w : World) (x : List UInt8) : FitAt w.heap.size x 1 (bytesWorld w 5 ⟨x.toArray⟩) := by
  intro j hj
  refine ⟨?_, ?_⟩
  · rw [bytesWorld_cell w 5 ⟨x.toArray⟩ j (by simpa [ByteArray.size] using hj), mix, if_neg (by omega)]
  · exact bytes_frozen w x j hj

theorem add_zero_at (b j : Nat) : (⟨b, 0, none⟩ : Addr).add j = ⟨b, j, none⟩ := by
  cases j with
  | zero => simp [Addr.add]
  | succ j => simp [Addr.add]

theorem fitAt_step {b : Nat} {x : List UInt8} {k : Nat} {W : World} (h : FitAt b x k W) (hk : 1 ≤ k) (hlt : k < x.length) : FitAt b x (k + 1) (W.setCell ⟨b, k, none⟩ (.int .u8 ((fit1 (x.getD k 0)).toNat : Int))) := by
  intro j hj
  obtain ⟨h1, h2⟩ := h j hj
  refine ⟨?_, by rw [World.frozen?_setCell]; exact h2⟩
  by_cases e : j = k
  · subst e
    rw [World.cell?_setCell_same' _ _ _ (by rw [h1]; rfl), mix, if_pos ⟨hk, by omega⟩]
  · rw [World.cell?_setCell_other _ _ _ _ (by intro h'; cases h'; exact e rfl), h1, mix, mix]
    by_cases h3 : 1 ≤ j ∧ j < k
    · rw [if_pos h3, if_pos ⟨h3.1, by omega⟩]
    · rw [if_neg h3, if_neg (by omega)]

set_option maxRecDepth 100000 in
set_option maxHeartbeats 1000000 in
theorem fit_any (s : ByteArray) (hs : s.size ≤ 9223372036854775807) (w : World) :
    Calls Tryd.prog 7 #[.string s] w fun e w' => e = .returned (.string ⟨(fitL s.data.toList).toArray⟩) ∧ Below w.heap.size w w' := by
  go_enter Tryd.func7, Tryd.ntmps7
  go_wp2
  have hx : (⟨#[110]⟩ : ByteArray) ++ s.extract 0 (min (s.size : Int) 15).toNat = ⟨(110 :: s.data.toList.take 15).toArray⟩ := by
    rw [extract_upto, show (⟨#[110]⟩ : ByteArray) = ⟨[110].toArray⟩ from rfl, bytes_append]
    have : s.data.toList.take (min (s.size : Int) 15).toNat = s.data.toList.take 15 := by
      rw [size_eq]
      by_cases h : s.data.toList.length ≤ 15
      · rw [List.take_of_length_le (by omega), List.take_of_length_le h]
      · rw [show (min ((s.data.toList.length : Nat) : Int) 15).toNat = 15 by omega]
    rw [this]; rfl
  rw [hx, Lib.run_convert_string_bytes (P := Tryd.prog) w 9 24 5 _ Tryd.underlying9 Tryd.underlying24 Tryd.underlying5]
  have hfit : fitL s.data.toList = (List.range (110 :: s.data.toList.take 15).length).map (mix (110 :: s.data.toList.take 15) (110 :: s.data.toList.take 15).length) := fit_mix _
  have hlen : (110 :: s.data.toList.take 15).length ≤ 16 := by simp; omega
  have hlen1 : 1 ≤ (110 :: s.data.toList.take 15).length := by simp
  have hszx : (⟨(110 :: s.data.toList.take 15).toArray⟩ : ByteArray).size = (110 :: s.data.toList.take 15).length := size_mk _
  rw [hszx]
  clear hx hszx
  have hS := fitAt_start w (110 :: s.data.toList.take 15)
  have hB := bytesWorld_below w 5 ⟨(110 :: s.data.toList.take 15).toArray⟩
  generalize 110 :: s.data.toList.take 15 = x at hfit hlen hlen1 hS hB ⊢
  have HF := Lib.hid hfit
  clear hfit
  simp only [Result.andThen]
  rw [Oper.upon_value]
  go_wp2
  go_loopw [4] (fun i wr => ∃ k : Nat, 1 ≤ k ∧ k ≤ x.length ∧ i = .int .i64 k ∧ FitAt w.heap.size x k wr ∧ Below w.heap.size w wr) (fun i _ => x.length - (RowKit.intOf i).toNat)
  case atStart => exact ⟨1, Nat.le_refl _, hlen1, rfl, hS, hB⟩
  case round =>
    obtain ⟨k, hk1, hk, rfl, hA, hBk⟩ := hrel
    by_cases hlt : k < x.length
    · obtain ⟨hc, hf⟩ := hA k hlt
      rw [mix, if_neg (by omega)] at hc
      obtain ⟨c, hcd⟩ : ∃ c, x.getD k 0 = c := ⟨_, rfl⟩
      rw [hcd] at hc
      obtain ⟨m, hmc⟩ : ∃ m : Int, (c.toNat : Int) = m := ⟨_, rfl⟩
      have hm0 : 0 ≤ m := by omega
      have hm : m < 256 := by have := c.toNat_lt; omega
      rw [hmc] at hc
      have HA := Lib.hid hA
      have HC := Lib.hid hcd
      have HM := Lib.hid hmc
      clear hA hS hB hcd hmc
      go_wp2
      have hm' := HM.out
      subst hm'
      rw [alphabet_at c]
      refine ⟨⟨k + 1, by omega, by omega, rfl, ?_, hBk.setCell (p := ⟨w.heap.size, k, none⟩) (Nat.le_refl _) _⟩, by simp [RowKit.intOf]; omega⟩
      rw [← HC.out]
      exact fitAt_step HA.out hk1 hlt
    · obtain rfl : k = x.length := by omega
      have hback := fun cap => run_convert_bytes_back (P := Tryd.prog) wr 24 9 5 ⟨w.heap.size, 0, none⟩ cap ((List.range x.length).map (mix x x.length)) Tryd.underlying24 Tryd.underlying5 Tryd.underlying9 (fun j hj => by
        have hj' : j < x.length := by simpa using hj
        have := (hA j hj').1
        rw [add_zero_at]; simpa using this)
      rw [List.length_map, List.length_range] at hback
      generalize hL : (List.range x.length).map (mix x x.length) = L at hback
      have HL := Lib.hid hL
      clear hL hA hS hB
      go_wp2
      go_ret
      exact ⟨by rw [HF.out, HL.out]; rfl, hBk⟩

end Go.Proofs.YtffkmcohbdgnbaaDoor
