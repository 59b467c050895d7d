/-
  strings.SplitSeq(s, "/"): its value's contract: the parts of s come one by one.
-/
import Derived.RangeFuncNested
import Derived.RangeFuncBound
import Derived.RangeFuncCalls
import Derived.RangeFuncLeaves
import Derived.RangeFuncBox
import Derived.Shelf.Abstract
import Derived.Shelf.RegionOpen
import Derived.WalkKit
import Derived.OwnWalkIn
import Derived.TacticsInMore
import Derived.LoopNIn
import Derived.LoopIn
import Derived.Lib.Hide
import Derived.Test.YtffkmcohbdgnbaaDoorProg
import Derived.Test.YtffkmcohbdgnbaaDoorLoop
import Derived.Test.YtffkmcohbdgnbaaDoorPlain
namespace Go.Proofs.YtffkmcohbdgnbaaDoor
open Go Go.RowKit Go.Shelf Go.Lib
attribute [local go_sem] Oper.semAt_some

def IndexSaid : Prop := ∀ (s : ByteArray) (w : World), Calls Tryd.prog 33 #[.string s, .string ⟨#[47]⟩] w fun e w' => e = .returned (.int .i64 (Lib.indexByte s.data.toList 47)) ∧ w' = w

/-- What the iterator may do between two rounds: write its own captured text. -/
def splitT (B : Nat) (A A' : World) : Prop := A.grownBy A' (some B)
/-- What a round keeps for it: its three captured variables. -/
def splitK (B : Nat) (A A' : World) : Prop := ∀ k, B ≤ k → k < B + 3 → A'.heap[k]? = A.heap[k]?

def leftOf (B : Nat) (w : World) : Nat := match w.cell? ⟨B, 0, none⟩ with | some (.string x) => x.size | _ => 0

theorem extract_take (l : List UInt8) (i : Nat) : (⟨l.toArray⟩ : ByteArray).extract 0 i = ⟨(l.take i).toArray⟩ := by
  rw [ByteArray.ext_iff]; simp
theorem extract_drop (l : List UInt8) (i n : Nat) (h : l.length = n) : (⟨l.toArray⟩ : ByteArray).extract i n = ⟨(l.drop i).toArray⟩ := by
  subst h
  rw [ByteArray.ext_iff]; simp [List.take_of_length_le]

structure SplitAt (B : Nat) (rest : List UInt8) (w : World) : Prop where
  s : w.heap[B]? = some (.cells #[.string ⟨rest.toArray⟩] 9 (0, 0))
  sep : w.heap[B + 1]? = some (.cells #[.string ⟨#[47]⟩] 9 (0, 0))
  save : w.heap[B + 2]? = some (.cells #[.int .i64 0] 3 (0, 0))

theorem cell_box {W : World} {B : Nat} {v : Value} {t : TypeId} (h : W.heap[B]? = some (.cells #[v] t (0, 0))) : W.cell? ⟨B, 0, none⟩ = some v := by simp [World.cell?, h]
theorem frozen_box {W : World} {B : Nat} {v : Value} {t : TypeId} (h : W.heap[B]? = some (.cells #[v] t (0, 0))) : W.frozen? ⟨B, 0, none⟩ = false := by simp [World.frozen?, h]
theorem heap_setBox {W : World} {B : Nat} {v : Value} {t : TypeId} (v' : Value) (h : W.heap[B]? = some (.cells #[v] t (0, 0))) : (W.setCell ⟨B, 0, none⟩ v').heap[B]? = some (.cells #[v'] t (0, 0)) := by
  obtain ⟨hlt, hk⟩ := Array.getElem?_eq_some_iff.1 h
  show (W.heap.modify B _)[B]? = _
  rw [Array.getElem?_eq_getElem (by rw [Array.size_modify]; exact hlt), Array.getElem_modify_self, hk]
  rfl
theorem grownBy_setBox (W : World) (b : Nat) (v : Value) : W.grownBy (W.setCell ⟨b, 0, none⟩ v) (some b) :=
  ⟨rfl, rfl, rfl, (KeepsWalks.setCell W _ v).size, fun k _ hk => Below.heap_setCell _ _ _ k (fun e => hk (by rw [e]))⟩

theorem SplitAt.keep {B : Nat} {rest : List UInt8} {w w' : World} (h : SplitAt B rest w) (k : splitK B w w') : SplitAt B rest w' :=
  ⟨(k B (by omega) (by omega)).trans h.s, (k (B + 1) (by omega) (by omega)).trans h.sep, (k (B + 2) (by omega) (by omega)).trans h.save⟩
theorem SplitAt.left {B : Nat} {rest : List UInt8} {w : World} (h : SplitAt B rest w) : leftOf B w = rest.length := by
  simp [leftOf, cell_box h.s, ByteArray.size]
theorem SplitAt.set {B : Nat} {rest rest' : List UInt8} {w : World} (h : SplitAt B rest w) : SplitAt B rest' (w.setCell ⟨B, 0, none⟩ (.string ⟨rest'.toArray⟩)) :=
  ⟨heap_setBox _ h.s, (Below.heap_setCell _ _ _ (B + 1) (by simp)).trans h.sep, (Below.heap_setCell _ _ _ (B + 2) (by simp)).trans h.save⟩

set_option maxRecDepth 100000 in
set_option maxHeartbeats 2000000 in
theorem split1_in (hI : IndexSaid) (F : Fence) (hF : F = Fence.wide) (n : Nat) (hn : 1 ≤ n) (l B : Nat) (s : List UInt8) (J Jx : Nat → World → Prop)
    (hJ : ∀ k A A', J k A → splitT B A A' → J k A')
    (hY : ∀ (k : Nat) (h : k < (parts s).length) (W1 : World), J k W1 → YieldAt F (n - 1) Tryd.prog l #[.string ⟨(parts s)[k].toArray⟩] W1 fun e W' =>
      (e = .returned (.bool true) ∧ J (k + 1) W' ∧ splitK B W1 W') ∨ (e = .returned (.bool false) ∧ Jx (k + 1) W'))
    (W : World) (hs : s.length ≤ 9223372036854775807) (h : SplitAt B s W) (h0 : J 0 W) :
    CallsIn F n Tryd.prog 48 #[.func (.yield l) #[] #[], .pointer (some ⟨B + 1, 0, none⟩), .pointer (some ⟨B, 0, none⟩), .pointer (some ⟨B + 2, 0, none⟩)] W fun e W' => (∃ v, e = .returned v) ∧
      (J (parts s).length W' ∨ ∃ k, k ≤ (parts s).length ∧ Jx k W') := by
  have hsep := cell_box h.sep
  subst hF
  refine callsIn_of_wp Tryd.func48 rfl trivial ?_ rfl
  simp only [Tryd.ntmps48, List.size_toArray, List.length_cons, List.length_nil, Nat.reduceAdd, Nat.reduceSub, Array.replicate_succ, Array.replicate_zero, List.push_toArray, List.append_toArray, List.nil_append, List.cons_append]
  gi_wp2
  gi_loopw [7, 8] (fun _ _ wr => ∃ (k : Nat) (rest : List UInt8), k < (parts s).length ∧ (parts s).drop k = parts rest ∧ rest.length ≤ 9223372036854775807 ∧ SplitAt B rest wr ∧ J k wr)
    (fun _ _ wr => leftOf B wr)
  case atStart => exact ⟨0, s, parts_length_pos s, rfl, hs, h, h0⟩
  case round =>
    obtain ⟨k, rest, hk, hd, hr, hS, hJs⟩ := hrel
    have hcs := cell_box hS.s
    have hcsep := cell_box hS.sep
    have hcsv := cell_box hS.save
    have hfs := frozen_box hS.s
    have HD := Lib.hid hd
    have HJ := Lib.hid hJ
    have HY := Lib.hid hY
    clear hd hJ hY
    by_cases hneg : Lib.indexByte rest 47 = -1
    · have hlt : Lib.indexByte rest 47 < 0 := by omega
      have HN := Lib.hid hneg
      clear hneg
      have he : (parts s)[k] = rest := by
        have := HD.out; rw [parts_none rest HN.out, List.drop_eq_getElem_cons hk] at this
        exact (List.cons.inj this).1
      have hlen : (parts s).length = k + 1 := by
        have := congrArg List.length HD.out; rw [parts_none rest HN.out, List.length_drop] at this; simp at this; omega
      obtain ⟨fn, tmps, assign, body, hy, hR⟩ := HY.out k hk wr hJs
      rw [he] at hy
      have HE := Lib.hid he
      have HL := Lib.hid hlen
      clear he hlen
      gi_wp2_with (refine ⟨trivial, ?_⟩; gi_at_call 33; refine (callsIn_wide.2 (hI _ _)).mono ?_; rintro e w' ⟨rfl, rfl⟩)
      refine hR.mono ?_
      rintro e W3 (⟨rfl, hJ3, hk3⟩ | ⟨rfl, hJx3⟩)
      · gi_wp2
        go_end0
        exact ⟨⟨_, rfl⟩, .inl (by rw [HL.out]; exact hJ3)⟩
      · gi_wp2
        go_end0
        exact ⟨⟨_, rfl⟩, .inr ⟨k + 1, by rw [HL.out]; exact Nat.le_refl _, hJx3⟩⟩
    · have hge : 0 ≤ Lib.indexByte rest 47 := by have := Lib.indexByte_ge rest 47; omega
      obtain ⟨i, hi⟩ := Int.eq_ofNat_of_zero_le hge
      have hlt := indexByte_lt rest 47 i hi
      have hps := parts_some rest i hi
      have he : (parts s)[k] = rest.take i := by
        have := HD.out; rw [hps, List.drop_eq_getElem_cons hk] at this
        exact (List.cons.inj this).1
      have hdr : (parts s).drop (k + 1) = parts (rest.drop (i + 1)) := by
        have := HD.out; rw [hps, List.drop_eq_getElem_cons hk] at this
        exact (List.cons.inj this).2
      have hk1 : k + 1 < (parts s).length := by
        have := congrArg List.length hdr; rw [List.length_drop] at this
        have := parts_length_pos (rest.drop (i + 1)); omega
      obtain ⟨fn, tmps, assign, body, hy, hR⟩ := HY.out k hk wr hJs
      rw [he, ← extract_take] at hy
      have HR := Lib.hid hdr
      have HI := Lib.hid hi
      clear he hps hdr hge hneg hi
      have hsz : ((⟨rest.toArray⟩ : ByteArray).size : Int) = rest.length := by simp [ByteArray.size]
      gi_wp2_with (refine ⟨trivial, ?_⟩; gi_at_call 33; refine (callsIn_wide.2 (hI _ _)).mono ?_; rw [HI.out]; rintro e w' ⟨rfl, rfl⟩)
      refine hR.mono ?_
      rintro e W3 (⟨rfl, hJ3, hk3⟩ | ⟨rfl, hJx3⟩)
      · have hS3 := hS.keep hk3
        have hcs3 := cell_box hS3.s
        have hcsep3 := cell_box hS3.sep
        have hfs3 := frozen_box hS3.s
        gi_wp2
        rw [extract_drop rest (i + 1) _ rfl]
        have hS4 := hS3.set (rest' := rest.drop (i + 1))
        exact ⟨⟨k + 1, rest.drop (i + 1), hk1, HR.out, by simp; omega, hS4, HJ.out _ _ _ hJ3 (grownBy_setBox _ _ _)⟩, by rw [hS4.left, hS.left]; simp; omega⟩
      · gi_wp2
        refine bodyPost_ret (results_none rfl _ _ _) rfl ?_
        exact ⟨⟨_, rfl⟩, .inr ⟨k + 1, by omega, hJx3⟩⟩

theorem SplitAt.below {B n₀ : Nat} {rest : List UInt8} {w w' : World} (h : SplitAt B rest w) (hb : B + 2 < n₀) (k : Below n₀ w w') : SplitAt B rest w' :=
  ⟨(k.block B (by omega)).trans h.s, (k.block (B + 1) (by omega)).trans h.sep, (k.block (B + 2) (by omega)).trans h.save⟩

/-- The function value that strings.SplitSeq hands back, its captured variables in the blocks from B on. -/
theorem split_seq (hI : IndexSaid) (n : Nat) (hn : 1 ≤ n) (B : Nat) (s : List UInt8) (hs : s.length ≤ 9223372036854775807) (w : World) (h : SplitAt B s w) :
    SeqL Fence.wide n Tryd.prog 48 #[.pointer (some ⟨B + 1, 0, none⟩), .pointer (some ⟨B, 0, none⟩), .pointer (some ⟨B + 2, 0, none⟩)] (fun x : List UInt8 => #[Value.string ⟨x.toArray⟩]) (splitT B) (splitK B) (parts s) w := by
  intro l J Jx W hW hJ _ hY h0
  have hb : B + 2 < w.heap.size := (Array.getElem?_eq_some_iff.1 h.save).1
  exact split1_in hI Fence.wide rfl n hn l B s J Jx hJ hY W hs (h.below hb hW) h0

end Go.Proofs.YtffkmcohbdgnbaaDoor
