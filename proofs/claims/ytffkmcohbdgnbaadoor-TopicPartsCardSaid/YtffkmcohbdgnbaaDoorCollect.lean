/-
  slices.Collect over the value of strings.SplitSeq(s, "/"): a new slice that holds the parts of s.
-/
import Derived.Maps.AppendAt
import Derived.Test.YtffkmcohbdgnbaaDoorSplit
namespace Go.Proofs.YtffkmcohbdgnbaaDoor
open Go Go.RowKit Go.Shelf Go.Lib
attribute [local go_sem] Oper.semAt_some

def encS (x : List UInt8) : Value := .string ⟨x.toArray⟩
/-- The function value of strings.SplitSeq, its captured variables in the blocks from B on. -/
def splitV (B : Nat) : Value := .func (.func 48) #[] #[.pointer (some ⟨B + 1, 0, none⟩), .pointer (some ⟨B, 0, none⟩), .pointer (some ⟨B + 2, 0, none⟩)]

theorem info9 : (Tryd.prog.info? 9).map (fun i => (i.zero, i.size, i.bytes)) = some (some (.string ⟨#[]⟩), 1, 16) := by kernel_rfl

theorem ownsRow_keptT {W W' : World} {base : Nat} {e : TypeId} {size : Nat} {v : Value} {k : Nat} {xs : List Value} {B : Nat} (h : W.ownsRow base e size v k xs) (hg : W.grownBy W' (some B)) (hB : B < base) : W'.ownsRow base e size v k xs := by
  refine h.kept hg ?_
  rcases h.2 with ⟨rfl, _⟩ | ⟨g, cap, cur, rfl, hge, _⟩
  · exact .inl rfl
  · refine .inr fun e' => ?_
    have : g = B := by simpa [Value.ownBlock] using e'
    omega

set_option maxRecDepth 100000 in
set_option maxHeartbeats 2000000 in
theorem appendSeq_in (hI : IndexSaid) (n : Nat) (hn : 3 ≤ n) (B : Nat) (s : List UInt8) (hs : s.length ≤ 9223372036854775807) (hbig : (parts s).length * 16 ≤ 140737488355328) (w : World) (h : SplitAt B s w) :
    CallsIn Fence.wide n Tryd.prog 29 #[.slice none 0 0, splitV B] w fun e W' => ∃ v, e = .returned v ∧ W'.ownsRow w.heap.size 9 1 v (parts s).length ((parts s).map encS) ∧ Below B w W' := by
  have h1 : 1 ≤ n := by omega
  have hBw : B + 2 < w.heap.size := (Array.getElem?_eq_some_iff.1 h.save).1
  obtain ⟨i0, hi, hz0, hz1, hz2⟩ := info_parts info9
  refine callsIn_of_wp_marks Tryd.func29 rfl trivial ?_ rfl
  simp only [Tryd.ntmps29, List.size_toArray, List.length_cons, List.length_nil, Nat.reduceAdd, Nat.reduceSub, Array.replicate_succ, Array.replicate_zero, List.push_toArray, List.append_toArray, List.nil_append, List.cons_append]
  have bO := Boxed.new w 36 (.slice none 0 0)
  have hB0 : Below B w (w.alloc (.cells #[.slice none 0 0] 36)) := (Below.refl _ w).alloc (by omega) _
  have hS0 : SplitAt B s (w.alloc (.cells #[.slice none 0 0] 36)) := h.below (n₀ := w.heap.size) (by omega) ((Below.refl _ w).alloc (Nat.le_refl _) _)
  gi_wp2
  refine wpIn_rangeFunc_L (xs := parts s) (w0 := w.alloc (.cells #[.slice none 0 0] 36)) rfl h1 (gf := 48) (lb := #[.pointer (some ⟨B + 1, 0, none⟩), .pointer (some ⟨B, 0, none⟩), .pointer (some ⟨B + 2, 0, none⟩)]) rfl trivial (enters_of Tryd.func48 (by kernel_rfl) rfl)
    (split_seq hI (n - 1) (by omega) B s hs _ hS0) (Below.refl _ _)
    (fun A A' k o hT hk ho _ => (hT.block k (Array.getElem?_eq_some_iff.1 ho).1 (fun e => by cases e; simp at hk; omega)).trans ho)
    (fun h1 h2 k a b => (h2 k a b).trans (h1 k a b))
    (fun W l o o' hl ho _ k a b => World.putObj_heap_other (by simp at hl; omega))
    (fun _ => rfl)
    (fun k W => (∃ v, Boxed W w.heap.size 36 v ∧ W.ownsRow w.heap.size 9 1 v k (((parts s).take k).map encS) ∧ True) ∧ Below B w W)
    (fun _ _ _ => False)
    (OwnFrom.and (Own.from (holdsRow_own w.heap.size w.heap.size 36 9 1 (fun k => k) (fun k => ((parts s).take k).map encS) (fun _ _ => True)) _) (ownFrom_below (by omega) (by simp; omega)))
    (fun _ _ _ _ _ hs _ _ => hs)
    (fun k A A' hi hT => by
      obtain ⟨⟨v, hv, hr, _⟩, hb⟩ := hi
      exact ⟨⟨v, hv.kept hT (fun e => by cases e; omega), ownsRow_keptT hr hT (by omega), trivial⟩, hb.grown hT (by have := hb.size; omega) (fun k e => by cases e; exact Nat.le_refl _)⟩)
    (fun _ _ _ _ hs _ => hs)
    ⟨⟨_, bO, World.ownsRow_nil _ _ _ _, trivial⟩, hB0⟩
    (fun x => { tmps := #[.slice none 0 0, splitV B, .pointer (some ⟨w.heap.size, 0, none⟩), undef, .slice none 0 0, encS x, splitV B, encS x, undef, undef, undef, undef, undef], defers := [] }) ?assign ?body ?done ?stop
  case assign =>
    intro l x W K hK
    gi_wp2
    exact hK
  case body =>
    rintro l k hk W ⟨⟨v, hv, hrow, _⟩, hB⟩
    have hc := hv.cell
    have hge : w.heap.size ≤ W.heap.size := hB.size
    have hlk : (List.take k (parts s)).length = k := by simp; omega
    have ht : ((parts s).take (k + 1)).map encS = ((parts s).take k).map encS ++ [encS (parts s)[k]] := by
      rw [List.take_succ_eq_append_getElem hk, List.map_append, List.map_cons, List.map_nil]
    have HT := Lib.hid ht
    clear ht
    generalize (parts s)[k] = y at HT ⊢
    unfold encS
    gi_wp2_with (gi_at_builtin; refine wpListIn_append_own _ rfl _ _ 36 rfl w.heap.size 9 i0 (.string ⟨#[]⟩) 1 16 Tryd.underlying36 hi hz0 hz1 hz2 rfl (by decide) _ _ _ rfl (hrow.alloc _) ⟨W.heap.size, 0, none⟩ 1 1 [.string ⟨y.toArray⟩] rfl rfl (cell_one_new _ _ _) (by simp [Value.oneCell']) (by unfold maxLen; omega) (by omega) (by simp; omega) ?_; intro v' w1 hown' hgrow _; obtain ⟨g', cap', rfl⟩ := ownsRow_succ hown'; obtain ⟨hv1, hv2, hr2, hk2, hb2⟩ := hv.appended (by decide) hrow hge (Nat.le_refl _) hown' hgrow; have hc1 := hv1.cell; have hf1 := hv1.frozen)
    have hT' := HT.out
    unfold encS at hT'
    exact ⟨hk2.from _, fun j _ hj => hb2.block j (by omega), ⟨_, hv2, by rw [hT']; exact hr2, trivial⟩, hB.trans (hb2.mono (by omega))⟩
  case done =>
    rintro D W hD ⟨⟨v, hv, hrow, _⟩, hB⟩ hK
    have hc := hv.cell
    gi_wp2
    refine ⟨by simp, .inl ⟨_, _, rfl, run_takeDeferred hK, ?_⟩⟩
    exact ⟨_, results_tmp rfl _ _ _, v, rfl, by have := ownsRow_putObj hrow (.deferred none) hK rfl; rwa [List.take_length] at this, hB.trans (belowK_b (w := w) (by omega) W D _ _ (by simp at hD; omega) hK rfl rfl)⟩
  case stop =>
    rintro D c k W _ _ h _
    exact h.elim

set_option maxRecDepth 100000 in
set_option maxHeartbeats 1000000 in
/-- slices.Collect. -/
theorem collect_any (hI : IndexSaid) (B : Nat) (s : List UInt8) (hs : s.length ≤ 9223372036854775807) (hbig : (parts s).length * 16 ≤ 140737488355328) (w : World) (h : SplitAt B s w) :
    Calls Tryd.prog 17 #[splitV B] w fun e W' => ∃ v, e = .returned v ∧ W'.ownsRow w.heap.size 9 1 v (parts s).length ((parts s).map encS) ∧ Below B w W' := by
  have hc := callsIn_wide.1 (appendSeq_in hI 3 (Nat.le_refl _) B s hs hbig w h)
  have H := Lib.hid hc
  clear hc
  go_enter Tryd.func17, Tryd.ntmps17
  go_wp2_with (go_at_call 29; refine H.out.mono ?_; rintro e w' ⟨v, rfl, ho, hb⟩)
  go_ret
  exact ⟨_, rfl, ho, hb⟩

set_option maxRecDepth 100000 in
set_option maxHeartbeats 1000000 in
/-- topic.parts: the text and the slash go into new blocks; the function value captures them. -/
theorem parts_any (s : ByteArray) (w : World) :
    Calls Tryd.prog 18 #[.string s] w fun e w' => e = .returned (splitV w.heap.size) ∧ SplitAt w.heap.size s.data.toList w' ∧ Below w.heap.size w w' ∧ w'.heap.size = w.heap.size + 3 := by
  go_enter Tryd.func18, Tryd.ntmps18
  go_wp2
  go_ret
  have b1 := ((Boxed.new w 9 (.string s)).alloc (.cells #[.string ⟨#[47]⟩] 9)).alloc (.cells #[.int .i64 0] 3)
  have b2 := (Boxed.new (w.alloc (.cells #[.string s] 9)) 9 (.string ⟨#[47]⟩)).alloc (.cells #[.int .i64 0] 3)
  have b3 := Boxed.new ((w.alloc (.cells #[.string s] 9)).alloc (.cells #[.string ⟨#[47]⟩] 9)) 3 (.int .i64 0)
  rw [World.size_alloc] at b2
  rw [World.size_alloc, World.size_alloc] at b3
  exact ⟨rfl, ⟨b1, b2, b3⟩, (((Below.refl _ _).alloc (Nat.le_refl _) _).alloc (by simp) _).alloc (by simp; omega) _, by simp⟩

end Go.Proofs.YtffkmcohbdgnbaaDoor
