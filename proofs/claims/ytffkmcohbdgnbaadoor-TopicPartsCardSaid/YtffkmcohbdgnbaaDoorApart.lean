/-
  The law TopicApart returns true, whatever it is given.
-/
import Derived.Test.YtffkmcohbdgnbaaDoorNames
namespace Go.Proofs.YtffkmcohbdgnbaaDoor
open Go Go.RowKit Go.Shelf Go.Lib

theorem parts_plain : ∀ (p : List UInt8), 47 ∉ p → parts p = [p]
  | [], _ => rfl
  | c :: r, h => by
    have hc : c ≠ 47 := fun e => h (by simp [e])
    obtain ⟨q, qs, e1, e2⟩ := parts_cons_ne c r hc
    rw [parts_plain r (fun e => h (by simp [e]))] at e1
    cases e1
    exact e2

theorem parts_slash : ∀ (p r : List UInt8), 47 ∉ p → parts (p ++ 47 :: r) = p :: parts r
  | [], r, _ => by rw [List.nil_append, parts, if_pos rfl]
  | c :: p, r, h => by
    have hc : c ≠ 47 := fun e => h (by simp [e])
    obtain ⟨q, qs, e1, e2⟩ := parts_cons_ne c (p ++ 47 :: r) hc
    rw [parts_slash p r (fun e => h (by simp [e]))] at e1
    cases e1
    rw [List.cons_append]
    exact e2

def uagv : List UInt8 := [117, 97, 103, 118]
def vtwo : List UInt8 := [118, 50]

theorem parts_topic (m s k : List UInt8) (hm : 47 ∉ m) (hs : 47 ∉ s) (hk : 47 ∉ k) : parts (topicL m s k) = [uagv, vtwo, m, s, k] := by
  have e : topicL m s k = uagv ++ 47 :: (vtwo ++ 47 :: (m ++ 47 :: (s ++ 47 :: k))) := by simp [topicL, headL, uagv, vtwo]
  rw [e, parts_slash _ _ (by decide), parts_slash _ _ (by decide), parts_slash _ _ hm, parts_slash _ _ hs, parts_plain _ hk]

theorem no_slash_of_cut (l : List UInt8) (h : ∀ c ∈ l, cutset.contains c = true) : 47 ∉ l := fun hm => by
  have := h 47 hm
  exact absurd this (by decide +kernel)

theorem fit_no_slash (l : List UInt8) : 47 ∉ fitL l := no_slash_of_cut _ (fitL_mem l)

theorem kinds_at (p : Nat) (hp : p < 5) : 47 ∉ kinds.getD p [] ∧ 43 ∉ kinds.getD p [] ∧ 35 ∉ kinds.getD p [] ∧ kindB (kinds.getD p []) = true := by
  have hp' : p = 0 ∨ p = 1 ∨ p = 2 ∨ p = 3 ∨ p = 4 := by omega
  rcases hp' with rfl | rfl | rfl | rfl | rfl <;> exact ⟨by decide +kernel, by decide +kernel, by decide +kernel, by decide +kernel⟩

theorem kindL_at (k : Int) : 47 ∉ kindL k ∧ 43 ∉ kindL k ∧ 35 ∉ kindL k ∧ kindB (kindL k) = true := kinds_at _ (by have := pickZ_range k 5 (by omega); omega)

theorem right_fit (a b : List UInt8) (k : Int) : rightT (fitL a) (fitL b) (kindL k) = true := by
  unfold rightT; rw [name_fit, name_fit, (kindL_at k).2.2.2]; rfl

theorem topic_inj (a b c d : List UInt8) (k l : Int) : topicL (fitL a) (fitL b) (kindL k) = topicL (fitL c) (fitL d) (kindL l) ↔ (fitL a = fitL c ∧ fitL b = fitL d ∧ kindL k = kindL l) := by
  constructor
  · intro h
    have := congrArg parts h
    rw [parts_topic _ _ _ (fit_no_slash a) (fit_no_slash b) (kindL_at k).1, parts_topic _ _ _ (fit_no_slash c) (fit_no_slash d) (kindL_at l).1] at this
    simpa using this
  · rintro ⟨h1, h2, h3⟩
    rw [h1, h2, h3]

theorem print_of {m s k : List UInt8} (h : rightT m s k = true) (w : World) :
    Calls Tryd.prog 11 #[.agg #[.string ⟨m.toArray⟩, .string ⟨s.toArray⟩, .string ⟨k.toArray⟩]] w fun e w' => e = .returned (.tuple #[.string ⟨(topicL m s k).toArray⟩, .int .i64 0]) ∧ Below w.heap.size w w' :=
  print_yes ⟨m.toArray⟩ ⟨s.toArray⟩ ⟨k.toArray⟩ w h

theorem cell_keep {n : Nat} {W W' : World} {b o : Nat} {v : Option Value} (hb : Below n W W') (hc : W.cell? ⟨b, o, none⟩ = v) (hlt : b < n) : W'.cell? ⟨b, o, none⟩ = v := (hb.cell (p := ⟨b, o, none⟩) hlt).trans hc

set_option maxRecDepth 100000 in
set_option maxHeartbeats 2000000 in
theorem apart_calls (a b c d : ByteArray) (ha : a.size ≤ 9223372036854775807) (hb : b.size ≤ 9223372036854775807) (hc : c.size ≤ 9223372036854775807) (hd : d.size ≤ 9223372036854775807)
    (k l : Int) (k1 : -9223372036854775807 ≤ k + 1) (k2 : k ≤ 9223372036854775807) (l1 : -9223372036854775807 ≤ l + 1) (l2 : l ≤ 9223372036854775807) (w : World) :
    Calls Tryd.prog 4 #[.agg #[.string a, .string b], .agg #[.string c, .string d], .int .i64 k, .int .i64 l] w fun e w' => e = .returned (.bool true) ∧ Below w.heap.size w w' := by
  have HI := Lib.hid (topic_inj a.data.toList b.data.toList c.data.toList d.data.toList k l)
  have HR1 := Lib.hid (right_fit a.data.toList b.data.toList k)
  have HR2 := Lib.hid (right_fit c.data.toList d.data.toList l)
  have x0 := cell_new_at w #[.string a, .string b] 28 0
  have x1 := cell_new_at w #[.string a, .string b] 28 1
  have y0 := cell_new_at (w.alloc (.cells #[.string a, .string b] 28)) #[.string c, .string d] 28 0
  have y1 := cell_new_at (w.alloc (.cells #[.string a, .string b] 28)) #[.string c, .string d] 28 1
  rw [World.size_alloc] at y0 y1
  have hA := (Below.refl _ (w.alloc (.cells #[.string a, .string b] 28))).alloc (Nat.le_refl _) (.cells #[.string c, .string d] 28)
  replace x0 := cell_keep hA x0 (by simp)
  replace x1 := cell_keep hA x1 (by simp)
  have hB : Below w.heap.size w ((w.alloc (.cells #[.string a, .string b] 28)).alloc (.cells #[.string c, .string d] 28)) := ((Below.refl _ w).alloc (Nat.le_refl _) _).alloc (by simp) _
  have hz : w.heap.size + 2 = ((w.alloc (.cells #[.string a, .string b] 28)).alloc (.cells #[.string c, .string d] 28)).heap.size := by simp
  obtain ⟨O, hO⟩ : ∃ O, (w.alloc (.cells #[.string a, .string b] 28)).alloc (.cells #[.string c, .string d] 28) = O := ⟨_, rfl⟩
  have HO := Lib.hid hO
  rw [hO] at x0 x1 y0 y1 hB hz
  clear hA hO
  go_enter Tryd.func4, Tryd.ntmps4
  go_wp2_with fail
  rw [HO.out]
  clear HO
  refine (awake_any _).mono ?_
  rintro e w1 ⟨rfl, hb1⟩
  replace x0 := cell_keep hb1 x0 (by omega)
  replace x1 := cell_keep hb1 x1 (by omega)
  replace y0 := cell_keep hb1 y0 (by omega)
  replace y1 := cell_keep hb1 y1 (by omega)
  replace hB := hB.trans (hb1.mono hB.size)
  have hz1 := hb1.size
  clear hb1
  go_wp2_with fail
  refine (topic_any a b k ha hb k1 k2 _).mono ?_
  generalize fitL a.data.toList = fa at HI HR1 ⊢
  generalize fitL b.data.toList = fb at HI HR1 ⊢
  generalize kindL k = fk at HI HR1 ⊢
  rintro e w2 ⟨rfl, hb2⟩
  clear x0 x1
  have hz2 := hb2.size
  have hA := (Below.refl w2.heap.size w2).alloc (Nat.le_refl _) (.cells #[.string ⟨fa.toArray⟩, .string ⟨fb.toArray⟩, .string ⟨fk.toArray⟩] 30)
  replace y0 := cell_keep hA (cell_keep hb2 y0 (by omega)) (by omega)
  replace y1 := cell_keep hA (cell_keep hb2 y1 (by omega)) (by omega)
  replace hB := (hB.trans (hb2.mono hB.size)).trans (hA.mono (by omega))
  clear hb2 hA
  obtain ⟨f0, f1, f2⟩ := box3 (Below.refl _ (w2.alloc (.cells #[.string ⟨fa.toArray⟩, .string ⟨fb.toArray⟩, .string ⟨fk.toArray⟩] 30)))
  go_wp2_with fail
  have hzO : w2.heap.size + 1 = (w2.alloc (.cells #[.string ⟨fa.toArray⟩, .string ⟨fb.toArray⟩, .string ⟨fk.toArray⟩] 30)).heap.size := by simp
  generalize w2.alloc (.cells #[.string ⟨fa.toArray⟩, .string ⟨fb.toArray⟩, .string ⟨fk.toArray⟩] 30) = O2 at f0 f1 f2 y0 y1 hB hzO ⊢
  refine (topic_any c d l hc hd l1 l2 _).mono ?_
  generalize fitL c.data.toList = ga at HI HR2 ⊢
  generalize fitL d.data.toList = gb at HI HR2 ⊢
  generalize kindL l = gk at HI HR2 ⊢
  rintro e w3 ⟨rfl, hb3⟩
  clear y0 y1
  have hz3 := hb3.size
  have hA := (Below.refl w3.heap.size w3).alloc (Nat.le_refl _) (.cells #[.string ⟨ga.toArray⟩, .string ⟨gb.toArray⟩, .string ⟨gk.toArray⟩] 30)
  replace f0 := cell_keep hA (cell_keep hb3 f0 (by omega)) (by omega)
  replace f1 := cell_keep hA (cell_keep hb3 f1 (by omega)) (by omega)
  replace f2 := cell_keep hA (cell_keep hb3 f2 (by omega)) (by omega)
  replace hB := (hB.trans (hb3.mono hB.size)).trans (hA.mono (by omega))
  clear hb3 hA
  obtain ⟨g0, g1, g2⟩ := box3 (Below.refl _ (w3.alloc (.cells #[.string ⟨ga.toArray⟩, .string ⟨gb.toArray⟩, .string ⟨gk.toArray⟩] 30)))
  go_wp2_with fail
  have hzO3 : w3.heap.size + 1 = (w3.alloc (.cells #[.string ⟨ga.toArray⟩, .string ⟨gb.toArray⟩, .string ⟨gk.toArray⟩] 30)).heap.size := by simp
  generalize w3.alloc (.cells #[.string ⟨ga.toArray⟩, .string ⟨gb.toArray⟩, .string ⟨gk.toArray⟩] 30) = O3 at f0 f1 f2 g0 g1 g2 hB hzO3 ⊢
  refine (print_of HR1.out _).mono ?_
  generalize topicL fa fb fk = t1 at HI ⊢
  rintro e w4 ⟨rfl, hb4⟩
  replace f0 := cell_keep hb4 f0 (by omega)
  replace f1 := cell_keep hb4 f1 (by omega)
  replace f2 := cell_keep hb4 f2 (by omega)
  replace g0 := cell_keep hb4 g0 (by omega)
  replace g1 := cell_keep hb4 g1 (by omega)
  replace g2 := cell_keep hb4 g2 (by omega)
  replace hB := hB.trans (hb4.mono hB.size)
  have hz4 := hb4.size
  clear hb4
  go_wp2_with fail
  refine (print_of HR2.out _).mono ?_
  generalize topicL ga gb gk = t2 at HI ⊢
  rintro e w5 ⟨rfl, hb5⟩
  replace f0 := cell_keep hb5 f0 (by omega)
  replace f1 := cell_keep hb5 f1 (by omega)
  replace f2 := cell_keep hb5 f2 (by omega)
  replace g0 := cell_keep hb5 g0 (by omega)
  replace g1 := cell_keep hb5 g1 (by omega)
  replace g2 := cell_keep hb5 g2 (by omega)
  replace hB := hB.trans (hb5.mono hB.size)
  clear hb5
  go_wp2
  all_goals go_ret
  · exact ⟨congrArg (fun b => Ending.returned (.bool b)) (beq_iff_eq.2 (HI.out.2 ⟨by assumption, by assumption, by assumption⟩)), hB⟩
  all_goals
    have hne : t1 ≠ t2 := fun h => by
      have h3 := HI.out.1 h
      first | exact absurd h3.2.2 (by assumption) | exact absurd h3.2.1 (by assumption) | exact absurd h3.1 (by assumption)
    have hne' : (!t1 == t2) = true := by simp [hne]
    exact ⟨congrArg (fun b => Ending.returned (.bool b)) hne', hB⟩

end Go.Proofs.YtffkmcohbdgnbaaDoor
