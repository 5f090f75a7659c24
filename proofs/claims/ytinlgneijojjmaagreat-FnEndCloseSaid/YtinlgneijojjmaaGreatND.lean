/- The program's functions of ends come to the clean ones: what is ok. -/
import Derived.Test.YtinlgneijojjmaaGreatNC
import Derived.WalkKit
set_option linter.unusedVariables false
set_option linter.unusedSimpArgs false
namespace Go.VI.EwcVi
open Go Go.VI Go.VI.Ns

theorem i_in (a lo hi : Int) : F_impl_in a lo hi = inn a lo hi := by
  unfold F_impl_in inn; rw [Bool.cond_false_right]
theorem i_word (a : Int) : F_impl_word a = inn a 0 65535 := i_in _ _ _
theorem i_portOk (a : Int) : F_impl_portOk a = inn a 1 255 := i_in _ _ _
theorem i_clipR (l : List (Int × Int)) : F_slices_Clip_impl_Range_impl_Range l = some ((l, ()), ()) := by
  simp (disch := omega) only [decide_true, decide_false, decide_eq_true, decide_eq_false, if_pos, if_neg, wr, cond_true, cond_false, Bool.not_true, Bool.not_false, Bool.and_true, Bool.true_and, Bool.and_false, Bool.false_and, Bool.or_true, Bool.true_or, Bool.or_false, Bool.false_or, Option.bind_some, Int.toNat_natCast, Bool.and_self, Bool.or_self, Bool.cond_self, reduceIte, inR_eq, big_eq, beq_self_eq_true, List.nil_append, List.append_nil, List.length_nil, List.length_append, F_slices_Clip_impl_Range_impl_Range, List.take_length]
theorem i_cloneR (l : List (Int × Int)) (h : l.length ≤ 1000000) : F_impl_clone_impl_Range l = some ((l, ()), ()) := by
  by_cases h0 : (l.length : Int) = 0
  · have : l = [] := List.length_eq_zero_iff.1 (by omega)
    simp (disch := omega) only [decide_true, decide_false, decide_eq_true, decide_eq_false, if_pos, if_neg, wr, cond_true, cond_false, Bool.not_true, Bool.not_false, Bool.and_true, Bool.true_and, Bool.and_false, Bool.false_and, Bool.or_true, Bool.true_or, Bool.or_false, Bool.false_or, Option.bind_some, Int.toNat_natCast, Bool.and_self, Bool.or_self, Bool.cond_self, reduceIte, inR_eq, big_eq, beq_self_eq_true, List.nil_append, List.append_nil, List.length_nil, List.length_append, F_impl_clone_impl_Range]
    rw [this]
  · simp (disch := omega) only [decide_true, decide_false, decide_eq_true, decide_eq_false, if_pos, if_neg, wr, cond_true, cond_false, Bool.not_true, Bool.not_false, Bool.and_true, Bool.true_and, Bool.and_false, Bool.false_and, Bool.or_true, Bool.true_or, Bool.or_false, Bool.false_or, Option.bind_some, Int.toNat_natCast, Bool.and_self, Bool.or_self, Bool.cond_self, reduceIte, inR_eq, big_eq, beq_self_eq_true, List.nil_append, List.append_nil, List.length_nil, List.length_append, F_impl_clone_impl_Range, Nat.zero_add, i_clipR]
theorem i_clipE (l : List (Int × Int)) : F_slices_Clip_impl_Early_impl_Early l = some ((l, ()), ()) := by
  simp (disch := omega) only [decide_true, decide_false, decide_eq_true, decide_eq_false, if_pos, if_neg, wr, cond_true, cond_false, Bool.not_true, Bool.not_false, Bool.and_true, Bool.true_and, Bool.and_false, Bool.false_and, Bool.or_true, Bool.true_or, Bool.or_false, Bool.false_or, Option.bind_some, Int.toNat_natCast, Bool.and_self, Bool.or_self, Bool.cond_self, reduceIte, inR_eq, big_eq, beq_self_eq_true, List.nil_append, List.append_nil, List.length_nil, List.length_append, F_slices_Clip_impl_Early_impl_Early, List.take_length]
theorem i_cloneE (l : List (Int × Int)) (h : l.length ≤ 1000000) : F_impl_clone_impl_Early l = some ((l, ()), ()) := by
  by_cases h0 : (l.length : Int) = 0
  · have : l = [] := List.length_eq_zero_iff.1 (by omega)
    simp (disch := omega) only [decide_true, decide_false, decide_eq_true, decide_eq_false, if_pos, if_neg, wr, cond_true, cond_false, Bool.not_true, Bool.not_false, Bool.and_true, Bool.true_and, Bool.and_false, Bool.false_and, Bool.or_true, Bool.true_or, Bool.or_false, Bool.false_or, Option.bind_some, Int.toNat_natCast, Bool.and_self, Bool.or_self, Bool.cond_self, reduceIte, inR_eq, big_eq, beq_self_eq_true, List.nil_append, List.append_nil, List.length_nil, List.length_append, F_impl_clone_impl_Early]
    rw [this]
  · simp (disch := omega) only [decide_true, decide_false, decide_eq_true, decide_eq_false, if_pos, if_neg, wr, cond_true, cond_false, Bool.not_true, Bool.not_false, Bool.and_true, Bool.true_and, Bool.and_false, Bool.false_and, Bool.or_true, Bool.true_or, Bool.or_false, Bool.false_or, Option.bind_some, Int.toNat_natCast, Bool.and_self, Bool.or_self, Bool.cond_self, reduceIte, inR_eq, big_eq, beq_self_eq_true, List.nil_append, List.append_nil, List.length_nil, List.length_append, F_impl_clone_impl_Early, Nat.zero_add, i_clipE]
theorem i_clipB (l : List Int) : F_slices_Clip_byte_byte l = some ((l, ()), ()) := by
  simp (disch := omega) only [decide_true, decide_false, decide_eq_true, decide_eq_false, if_pos, if_neg, wr, cond_true, cond_false, Bool.not_true, Bool.not_false, Bool.and_true, Bool.true_and, Bool.and_false, Bool.false_and, Bool.or_true, Bool.true_or, Bool.or_false, Bool.false_or, Option.bind_some, Int.toNat_natCast, Bool.and_self, Bool.or_self, Bool.cond_self, reduceIte, inR_eq, big_eq, beq_self_eq_true, List.nil_append, List.append_nil, List.length_nil, List.length_append, F_slices_Clip_byte_byte, List.take_length]
theorem i_cloneB (l : List Int) (h : l.length ≤ 1000000) : F_impl_clone_byte l = some ((l, ()), ()) := by
  by_cases h0 : (l.length : Int) = 0
  · have : l = [] := List.length_eq_zero_iff.1 (by omega)
    simp (disch := omega) only [decide_true, decide_false, decide_eq_true, decide_eq_false, if_pos, if_neg, wr, cond_true, cond_false, Bool.not_true, Bool.not_false, Bool.and_true, Bool.true_and, Bool.and_false, Bool.false_and, Bool.or_true, Bool.true_or, Bool.or_false, Bool.false_or, Option.bind_some, Int.toNat_natCast, Bool.and_self, Bool.or_self, Bool.cond_self, reduceIte, inR_eq, big_eq, beq_self_eq_true, List.nil_append, List.append_nil, List.length_nil, List.length_append, F_impl_clone_byte]
    rw [this]
  · simp (disch := omega) only [decide_true, decide_false, decide_eq_true, decide_eq_false, if_pos, if_neg, wr, cond_true, cond_false, Bool.not_true, Bool.not_false, Bool.and_true, Bool.true_and, Bool.and_false, Bool.false_and, Bool.or_true, Bool.true_or, Bool.or_false, Bool.false_or, Option.bind_some, Int.toNat_natCast, Bool.and_self, Bool.or_self, Bool.cond_self, reduceIte, inR_eq, big_eq, beq_self_eq_true, List.nil_append, List.append_nil, List.length_nil, List.length_append, F_impl_clone_byte, Nat.zero_add, i_clipB]
theorem i_clipS (l : List TSegment) : F_slices_Clip_impl_Segment_impl_Segment l = some ((l, ()), ()) := by
  simp (disch := omega) only [decide_true, decide_false, decide_eq_true, decide_eq_false, if_pos, if_neg, wr, cond_true, cond_false, Bool.not_true, Bool.not_false, Bool.and_true, Bool.true_and, Bool.and_false, Bool.false_and, Bool.or_true, Bool.true_or, Bool.or_false, Bool.false_or, Option.bind_some, Int.toNat_natCast, Bool.and_self, Bool.or_self, Bool.cond_self, reduceIte, inR_eq, big_eq, beq_self_eq_true, List.nil_append, List.append_nil, List.length_nil, List.length_append, F_slices_Clip_impl_Segment_impl_Segment, List.take_length]
theorem i_cloneS (l : List TSegment) (h : l.length ≤ 1000000) : F_impl_clone_impl_Segment l = some ((l, ()), ()) := by
  by_cases h0 : (l.length : Int) = 0
  · have : l = [] := List.length_eq_zero_iff.1 (by omega)
    simp (disch := omega) only [decide_true, decide_false, decide_eq_true, decide_eq_false, if_pos, if_neg, wr, cond_true, cond_false, Bool.not_true, Bool.not_false, Bool.and_true, Bool.true_and, Bool.and_false, Bool.false_and, Bool.or_true, Bool.true_or, Bool.or_false, Bool.false_or, Option.bind_some, Int.toNat_natCast, Bool.and_self, Bool.or_self, Bool.cond_self, reduceIte, inR_eq, big_eq, beq_self_eq_true, List.nil_append, List.append_nil, List.length_nil, List.length_append, F_impl_clone_impl_Segment]
    rw [this]
  · simp (disch := omega) only [decide_true, decide_false, decide_eq_true, decide_eq_false, if_pos, if_neg, wr, cond_true, cond_false, Bool.not_true, Bool.not_false, Bool.and_true, Bool.true_and, Bool.and_false, Bool.false_and, Bool.or_true, Bool.true_or, Bool.or_false, Bool.false_or, Option.bind_some, Int.toNat_natCast, Bool.and_self, Bool.or_self, Bool.cond_self, reduceIte, inR_eq, big_eq, beq_self_eq_true, List.nil_append, List.append_nil, List.length_nil, List.length_append, F_impl_clone_impl_Segment, Nat.zero_add, i_clipS]
theorem pickR_len (to : Int) : ∀ (l : List (Int × Int)) (last : Int) (n : Nat), (pickR to last n l).length ≤ n
  | [], last, n => by simp [pickR]
  | r :: l, last, n => by
    unfold pickR
    split
    · have := pickR_len to l r.2 (n - 1)
      simp only [List.length_cons]; omega
    · exact pickR_len to l last n
theorem i_rangesOk_l (to : Int) (l0 : List (Int × Int)) : ∀ (suf pre acc : List (Int × Int)) (n : Nat) (k last : Int), l0 = pre ++ suf → suf.length < n → pre.length + suf.length ≤ 1000000000 → acc.length ≤ 2 → k = pre.length →
    L_impl_rangesOk_4 n (to, acc, last, l0, (l0.length : Int), k, ()) = some ((acc ++ pickR to last (2 - acc.length) suf, ()), ())
  | [], pre, acc, 0, k, last, he, hn, hl, ha, hk => by simp at hn
  | [], pre, acc, n + 1, k, last, he, hn, hl, ha, hk => by
    have hlen : l0.length = pre.length := by rw [he]; simp
    simp (disch := omega) only [decide_true, decide_false, decide_eq_true, decide_eq_false, if_pos, if_neg, wr, cond_true, cond_false, Bool.not_true, Bool.not_false, Bool.and_true, Bool.true_and, Bool.and_false, Bool.false_and, Bool.or_true, Bool.true_or, Bool.or_false, Bool.false_or, Option.bind_some, Int.toNat_natCast, Bool.and_self, Bool.or_self, Bool.cond_self, reduceIte, inR_eq, big_eq, beq_self_eq_true, List.nil_append, List.append_nil, List.length_nil, List.length_append, L_impl_rangesOk_4, i_cloneR acc (by omega), pickR]
  | x :: suf, pre, acc, 0, k, last, he, hn, hl, ha, hk => by simp at hn
  | x :: suf, pre, acc, n + 1, k, last, he, hn, hl, ha, hk => by
    have hlen : l0.length = pre.length + (suf.length + 1) := by rw [he]; simp
    simp only [List.length_cons] at hl hn
    have hx : rdI (0, 0) l0 k.toNat = x := by rw [he, hk, Int.toNat_natCast]; exact rd_app _ _ _ _
    have ih := fun acc last h => i_rangesOk_l to l0 suf (pre ++ [x]) acc n (k + 1) last (by simp [he]) (by omega) (by simp; omega) h (by simp; omega)
    by_cases c1 : last < x.1
    · by_cases c2 : x.1 < x.2
      · by_cases c3 : x.2 ≤ to
        · by_cases c4 : acc.length < 2
          · have e : pickR to last (2 - acc.length) (x :: suf) = x :: pickR to x.2 (2 - (acc ++ [x]).length) suf := by
              rw [pickR, if_pos ⟨c1, c2, c3, by omega⟩, List.length_append, List.length_singleton]; rfl
            have ih := ih (acc ++ [x]) x.2 (by simp; omega)
            rw [List.append_assoc, List.singleton_append, ← e] at ih
            simp (disch := omega) only [decide_true, decide_false, decide_eq_true, decide_eq_false, if_pos, if_neg, wr, cond_true, cond_false, Bool.not_true, Bool.not_false, Bool.and_true, Bool.true_and, Bool.and_false, Bool.false_and, Bool.or_true, Bool.true_or, Bool.or_false, Bool.false_or, Option.bind_some, Int.toNat_natCast, Bool.and_self, Bool.or_self, Bool.cond_self, reduceIte, inR_eq, big_eq, beq_self_eq_true, List.nil_append, List.append_nil, List.length_nil, List.length_append, L_impl_rangesOk_4, hx, ih, List.length_cons, Nat.zero_add]
          · have e : pickR to last (2 - acc.length) (x :: suf) = pickR to last (2 - acc.length) suf := by rw [pickR, if_neg (fun h => by omega)]
            have ih := ih acc last ha
            rw [e]
            simp (disch := omega) only [decide_true, decide_false, decide_eq_true, decide_eq_false, if_pos, if_neg, wr, cond_true, cond_false, Bool.not_true, Bool.not_false, Bool.and_true, Bool.true_and, Bool.and_false, Bool.false_and, Bool.or_true, Bool.true_or, Bool.or_false, Bool.false_or, Option.bind_some, Int.toNat_natCast, Bool.and_self, Bool.or_self, Bool.cond_self, reduceIte, inR_eq, big_eq, beq_self_eq_true, List.nil_append, List.append_nil, List.length_nil, List.length_append, L_impl_rangesOk_4, hx, ih]
        · have e : pickR to last (2 - acc.length) (x :: suf) = pickR to last (2 - acc.length) suf := by rw [pickR, if_neg (fun h => c3 h.2.2.1)]
          have ih := ih acc last ha
          rw [e]
          simp (disch := omega) only [decide_true, decide_false, decide_eq_true, decide_eq_false, if_pos, if_neg, wr, cond_true, cond_false, Bool.not_true, Bool.not_false, Bool.and_true, Bool.true_and, Bool.and_false, Bool.false_and, Bool.or_true, Bool.true_or, Bool.or_false, Bool.false_or, Option.bind_some, Int.toNat_natCast, Bool.and_self, Bool.or_self, Bool.cond_self, reduceIte, inR_eq, big_eq, beq_self_eq_true, List.nil_append, List.append_nil, List.length_nil, List.length_append, L_impl_rangesOk_4, hx, ih]
      · have e : pickR to last (2 - acc.length) (x :: suf) = pickR to last (2 - acc.length) suf := by rw [pickR, if_neg (fun h => c2 h.2.1)]
        have ih := ih acc last ha
        rw [e]
        simp (disch := omega) only [decide_true, decide_false, decide_eq_true, decide_eq_false, if_pos, if_neg, wr, cond_true, cond_false, Bool.not_true, Bool.not_false, Bool.and_true, Bool.true_and, Bool.and_false, Bool.false_and, Bool.or_true, Bool.true_or, Bool.or_false, Bool.false_or, Option.bind_some, Int.toNat_natCast, Bool.and_self, Bool.or_self, Bool.cond_self, reduceIte, inR_eq, big_eq, beq_self_eq_true, List.nil_append, List.append_nil, List.length_nil, List.length_append, L_impl_rangesOk_4, hx, ih]
    · have e : pickR to last (2 - acc.length) (x :: suf) = pickR to last (2 - acc.length) suf := by rw [pickR, if_neg (fun h => c1 h.1)]
      have ih := ih acc last ha
      rw [e]
      simp (disch := omega) only [decide_true, decide_false, decide_eq_true, decide_eq_false, if_pos, if_neg, wr, cond_true, cond_false, Bool.not_true, Bool.not_false, Bool.and_true, Bool.true_and, Bool.and_false, Bool.false_and, Bool.or_true, Bool.true_or, Bool.or_false, Bool.false_or, Option.bind_some, Int.toNat_natCast, Bool.and_self, Bool.or_self, Bool.cond_self, reduceIte, inR_eq, big_eq, beq_self_eq_true, List.nil_append, List.append_nil, List.length_nil, List.length_append, L_impl_rangesOk_4, hx, ih]
theorem i_rangesOk (l : List (Int × Int)) (at_ to : Int) (h : l.length ≤ 1000000) : F_impl_rangesOk l at_ to = some ((pickR to at_ 2 l, ()), ()) := by
  have := i_rangesOk_l to l l [] [] fuel 0 at_ rfl (by rw [fuel_eq]; omega) (by simp; omega) (by simp) rfl
  simpa [F_impl_rangesOk] using this
theorem i_Equal_l (a b : List (Int × Int)) : ∀ (s1 s2 p1 p2 : List (Int × Int)) (n : Nat) (k : Int), a = p1 ++ s1 → b = p2 ++ s2 → p1.length = p2.length → s1.length = s2.length → s1.length < n → p1.length + s1.length ≤ 1000000000 → k = p1.length →
    L_slices_Equal_impl_Range_impl_Range_4 n (a, b, (a.length : Int), k, ()) = some ((decide (s1 = s2), ()), ())
  | [], s2, p1, p2, 0, k, ha, hb, hp, hs, hn, hl, hk => by simp at hn
  | [], [], p1, p2, n + 1, k, ha, hb, hp, hs, hn, hl, hk => by
    have hlen : a.length = p1.length := by rw [ha]; simp
    simp (disch := omega) only [decide_true, decide_false, decide_eq_true, decide_eq_false, if_pos, if_neg, wr, cond_true, cond_false, Bool.not_true, Bool.not_false, Bool.and_true, Bool.true_and, Bool.and_false, Bool.false_and, Bool.or_true, Bool.true_or, Bool.or_false, Bool.false_or, Option.bind_some, Int.toNat_natCast, Bool.and_self, Bool.or_self, Bool.cond_self, reduceIte, inR_eq, big_eq, beq_self_eq_true, List.nil_append, List.append_nil, List.length_nil, List.length_append, L_slices_Equal_impl_Range_impl_Range_4]
  | [], y :: s2, p1, p2, n + 1, k, ha, hb, hp, hs, hn, hl, hk => by simp at hs
  | x :: s1, s2, p1, p2, 0, k, ha, hb, hp, hs, hn, hl, hk => by simp at hn
  | x :: s1, [], p1, p2, n + 1, k, ha, hb, hp, hs, hn, hl, hk => by simp at hs
  | x :: s1, y :: s2, p1, p2, n + 1, k, ha, hb, hp, hs, hn, hl, hk => by
    have hlen : a.length = p1.length + (s1.length + 1) := by rw [ha]; simp
    have hlen2 : b.length = p2.length + (s2.length + 1) := by rw [hb]; simp
    simp only [List.length_cons] at hl hn hs
    have hx : rdI (0, 0) a k.toNat = x := by rw [ha, hk, Int.toNat_natCast]; exact rd_app _ _ _ _
    have hy : rdI (0, 0) b k.toNat = y := by rw [hb, hk, hp, Int.toNat_natCast]; exact rd_app _ _ _ _
    have ih := i_Equal_l a b s1 s2 (p1 ++ [x]) (p2 ++ [y]) n (k + 1) (by simp [ha]) (by simp [hb]) (by simp [hp]) (by omega) (by omega) (by simp; omega) (by simp; omega)
    by_cases c1 : x.1 = y.1
    · by_cases c2 : x.2 = y.2
      · have hxy : x = y := Prod.ext c1 c2
        have hd : decide (x :: s1 = y :: s2) = decide (s1 = s2) := by rw [hxy]; simp
        simp (disch := omega) only [decide_true, decide_false, decide_eq_true, decide_eq_false, if_pos, if_neg, wr, cond_true, cond_false, Bool.not_true, Bool.not_false, Bool.and_true, Bool.true_and, Bool.and_false, Bool.false_and, Bool.or_true, Bool.true_or, Bool.or_false, Bool.false_or, Option.bind_some, Int.toNat_natCast, Bool.and_self, Bool.or_self, Bool.cond_self, reduceIte, inR_eq, big_eq, beq_self_eq_true, List.nil_append, List.append_nil, List.length_nil, List.length_append, L_slices_Equal_impl_Range_impl_Range_4, hx, hy, ih, hd]
      · have hd : decide (x :: s1 = y :: s2) = false := decide_eq_false (fun h => c2 (by rw [(List.cons.inj h).1]))
        simp (disch := omega) only [decide_true, decide_false, decide_eq_true, decide_eq_false, if_pos, if_neg, wr, cond_true, cond_false, Bool.not_true, Bool.not_false, Bool.and_true, Bool.true_and, Bool.and_false, Bool.false_and, Bool.or_true, Bool.true_or, Bool.or_false, Bool.false_or, Option.bind_some, Int.toNat_natCast, Bool.and_self, Bool.or_self, Bool.cond_self, reduceIte, inR_eq, big_eq, beq_self_eq_true, List.nil_append, List.append_nil, List.length_nil, List.length_append, L_slices_Equal_impl_Range_impl_Range_4, hx, hy, hd]
    · have hd : decide (x :: s1 = y :: s2) = false := decide_eq_false (fun h => c1 (by rw [(List.cons.inj h).1]))
      simp (disch := omega) only [decide_true, decide_false, decide_eq_true, decide_eq_false, if_pos, if_neg, wr, cond_true, cond_false, Bool.not_true, Bool.not_false, Bool.and_true, Bool.true_and, Bool.and_false, Bool.false_and, Bool.or_true, Bool.true_or, Bool.or_false, Bool.false_or, Option.bind_some, Int.toNat_natCast, Bool.and_self, Bool.or_self, Bool.cond_self, reduceIte, inR_eq, big_eq, beq_self_eq_true, List.nil_append, List.append_nil, List.length_nil, List.length_append, L_slices_Equal_impl_Range_impl_Range_4, hx, hy, hd]
theorem i_Equal (a b : List (Int × Int)) (h : a.length ≤ 1000000) : F_slices_Equal_impl_Range_impl_Range a b = some ((decide (a = b), ()), ()) := by
  by_cases hl : (a.length : Int) = b.length
  · have := i_Equal_l a b a b [] [] fuel 0 rfl rfl rfl (by omega) (by rw [fuel_eq]; omega) (by simp; omega) rfl
    simp (disch := omega) only [decide_true, decide_false, decide_eq_true, decide_eq_false, if_pos, if_neg, wr, cond_true, cond_false, Bool.not_true, Bool.not_false, Bool.and_true, Bool.true_and, Bool.and_false, Bool.false_and, Bool.or_true, Bool.true_or, Bool.or_false, Bool.false_or, Option.bind_some, Int.toNat_natCast, Bool.and_self, Bool.or_self, Bool.cond_self, reduceIte, inR_eq, big_eq, beq_self_eq_true, List.nil_append, List.append_nil, List.length_nil, List.length_append, F_slices_Equal_impl_Range_impl_Range, this]
  · have hd : decide (a = b) = false := decide_eq_false (fun h => hl (by rw [h]))
    simp (disch := omega) only [decide_true, decide_false, decide_eq_true, decide_eq_false, if_pos, if_neg, wr, cond_true, cond_false, Bool.not_true, Bool.not_false, Bool.and_true, Bool.true_and, Bool.and_false, Bool.false_and, Bool.or_true, Bool.true_or, Bool.or_false, Bool.false_or, Option.bind_some, Int.toNat_natCast, Bool.and_self, Bool.or_self, Bool.cond_self, reduceIte, inR_eq, big_eq, beq_self_eq_true, List.nil_append, List.append_nil, List.length_nil, List.length_append, F_slices_Equal_impl_Range_impl_Range, hd]
theorem pickR_all (to : Int) : ∀ (l : List (Int × Int)) (last : Int) (n : Nat), l.length ≤ n → decide (pickR to last n l = l) = earlyOk to last l
  | [], last, n, h => by simp [pickR, earlyOk]
  | r :: l, last, n, h => by
    simp only [List.length_cons] at h
    unfold pickR earlyOk
    by_cases hc : last < r.1 ∧ r.1 < r.2 ∧ r.2 ≤ to ∧ 0 < n
    · rw [if_pos hc]
      have ih := pickR_all to l r.2 (n - 1) (by omega)
      rw [decide_eq_true hc.1, decide_eq_true hc.2.1, decide_eq_true hc.2.2.1, ← ih]
      simp
    · rw [if_neg hc]
      have hne : ¬ pickR to last n l = r :: l := by
        intro he
        have : (r :: l).length ≤ l.length := by
          rw [← he]
          exact pickR_sub to l last n
        simp only [List.length_cons] at this
        omega
      have h3 : ¬ (last < r.1 ∧ r.1 < r.2 ∧ r.2 ≤ to) := fun h' => hc ⟨h'.1, h'.2.1, h'.2.2, by omega⟩
      rw [decide_eq_false hne]
      by_cases a1 : last < r.1 <;> by_cases a2 : r.1 < r.2 <;> by_cases a3 : r.2 ≤ to <;> simp [a1, a2, a3] <;> exact absurd ⟨a1, a2, a3⟩ h3
where
  pickR_sub (to : Int) : ∀ (l : List (Int × Int)) (last : Int) (n : Nat), (pickR to last n l).length ≤ l.length
  | [], last, n => by simp [pickR]
  | r :: l, last, n => by
    unfold pickR
    split
    · have := pickR_sub to l r.2 (n - 1)
      simp only [List.length_cons]; omega
    · have := pickR_sub to l last n
      simp only [List.length_cons]; omega
theorem i_MouthOk (m : Mo) : F_impl_MouthOk m.e = some ((m.ok, ()), ()) := by
  have d1 : decide ((m.keep.length : Int) ≤ 32) = decide (m.keep.length ≤ 32) := by rw [Bool.eq_iff_iff]; simp; omega
  have d2 : decide ((m.early.length : Int) ≤ 2) = decide (m.early.length ≤ 2) := by rw [Bool.eq_iff_iff]; simp; omega
  simp only [F_impl_MouthOk, i_in, Bool.cond_false_right, d1, d2, Mo.ok]
  cases h : (inn m.heard 0 1000000 && decide (m.keep.length ≤ 32) && inn m.sent 0 m.keep.length && inn m.room 0 255 && decide (m.early.length ≤ 2)) with
  | true =>
    simp only [Bool.and_eq_true, inn_iff, decide_eq_true_eq] at h
    obtain ⟨⟨⟨⟨h1, h2⟩, h3⟩, h4⟩, h5⟩ := h
    have hp := pickR_len (m.heard + m.sent) m.early m.heard 2
    simp (disch := omega) only [decide_true, decide_false, decide_eq_true, decide_eq_false, if_pos, if_neg, wr, cond_true, cond_false, Bool.not_true, Bool.not_false, Bool.and_true, Bool.true_and, Bool.and_false, Bool.false_and, Bool.or_true, Bool.true_or, Bool.or_false, Bool.false_or, Option.bind_some, Int.toNat_natCast, Bool.and_self, Bool.or_self, Bool.cond_self, reduceIte, inR_eq, big_eq, beq_self_eq_true, List.nil_append, List.append_nil, List.length_nil, List.length_append, i_rangesOk m.early m.heard (m.heard + m.sent) (by omega), i_Equal _ _ (Nat.le_trans hp (by omega)), pickR_all (m.heard + m.sent) m.early m.heard 2 h5]
  | false => rfl
theorem i_Ear_free (e : Ea) (h : 0 ≤ e.room ∧ e.room ≤ 1000000) (h2 : e.got.length ≤ 1000000) : F_impl_Ear_free e.e = e.free := by
  simp (disch := omega) only [decide_true, decide_false, decide_eq_true, decide_eq_false, if_pos, if_neg, wr, cond_true, cond_false, Bool.not_true, Bool.not_false, Bool.and_true, Bool.true_and, Bool.and_false, Bool.false_and, Bool.or_true, Bool.true_or, Bool.or_false, Bool.false_or, Option.bind_some, Int.toNat_natCast, Bool.and_self, Bool.or_self, Bool.cond_self, reduceIte, inR_eq, big_eq, beq_self_eq_true, List.nil_append, List.append_nil, List.length_nil, List.length_append, F_impl_Ear_free, Ea.free]
theorem i_EarOk_l (m : Ea) (h1 : 0 ≤ m.next) (h2 : m.next ≤ 1000000) (h3 : 0 ≤ m.room) (h4 : m.room ≤ 1000) (h5 : (m.got.length : Int) ≤ m.room) : ∀ (suf pre : List (Int × Int)) (n : Nat) (k last : Int), m.far = pre ++ suf → suf.length < n → pre.length + suf.length ≤ 1000000000 → k = pre.length →
    ((pre = [] ∧ last = m.next) ∨ ∃ p y, pre = p ++ [y] ∧ last = y.1 ∧ m.next ≤ y.1) → L_impl_EarOk_4 n ((), m.far, (m.far.length : Int), k, m.e, ()) = some ((farOk (m.next + m.free) last suf, ()), ())
  | [], pre, 0, k, last, he, hn, hl, hk, hp => by simp at hn
  | [], pre, n + 1, k, last, he, hn, hl, hk, hp => by
    have hlen : m.far.length = pre.length := by rw [he]; simp
    simp (disch := omega) only [decide_true, decide_false, decide_eq_true, decide_eq_false, if_pos, if_neg, wr, cond_true, cond_false, Bool.not_true, Bool.not_false, Bool.and_true, Bool.true_and, Bool.and_false, Bool.false_and, Bool.or_true, Bool.true_or, Bool.or_false, Bool.false_or, Option.bind_some, Int.toNat_natCast, Bool.and_self, Bool.or_self, Bool.cond_self, reduceIte, inR_eq, big_eq, beq_self_eq_true, List.nil_append, List.append_nil, List.length_nil, List.length_append, L_impl_EarOk_4, farOk]
  | x :: suf, pre, 0, k, last, he, hn, hl, hk, hp => by simp at hn
  | x :: suf, pre, n + 1, k, last, he, hn, hl, hk, hp => by
    have hlen : m.far.length = pre.length + (suf.length + 1) := by rw [he]; simp
    simp only [List.length_cons] at hl hn
    have ih := i_EarOk_l m h1 h2 h3 h4 h5 suf (pre ++ [x]) n (k + 1) x.1 (by simp [he]) (by omega) (by simp; omega) (by simp; omega)
    have hx : rdI (0, 0) m.far k.toNat = x := by rw [he, hk, Int.toNat_natCast]; exact rd_app _ _ _ _
    have hy : ∀ p y, pre = p ++ [y] → rdI (0, 0) m.far (k - 1).toNat = y ∧ 1 ≤ k := by
      intro p y hp
      have hkk : k = p.length + 1 := by rw [hk, hp]; simp
      refine ⟨?_, by omega⟩
      rw [he, hp, show (k - 1).toNat = p.length by omega, List.append_assoc]; exact rd_app _ _ _ _
    have hfr0 := i_Ear_free m ⟨h3, by omega⟩ (by omega)
    have hfr : 0 ≤ m.free ∧ m.free ≤ 1000 := by unfold Ea.free; omega
    by_cases c1 : m.next + 1 ≤ x.1 ∧ x.1 ≤ m.next + m.free - 1
    · obtain ⟨q1, q2⟩ := c1
      have ii : inn x.1 (m.next + 1) (m.next + m.free - 1) = true := by rw [inn_iff]; omega
      rcases hp with ⟨h, h'⟩ | ⟨p, y, h, h', h''⟩
      · subst h; simp only [List.length_nil] at hk
        have ih2 := ih (.inr ⟨[], x, rfl, rfl, by omega⟩)
        simp (disch := omega) only [decide_true, decide_false, decide_eq_true, decide_eq_false, if_pos, if_neg, wr, cond_true, cond_false, Bool.not_true, Bool.not_false, Bool.and_true, Bool.true_and, Bool.and_false, Bool.false_and, Bool.or_true, Bool.true_or, Bool.or_false, Bool.false_or, Option.bind_some, Int.toNat_natCast, Bool.and_self, Bool.or_self, Bool.cond_self, reduceIte, inR_eq, big_eq, beq_self_eq_true, List.nil_append, List.append_nil, List.length_nil, List.length_append, farOk, ih2, L_impl_EarOk_4, hx, i_in, hfr0, ii]
      · obtain ⟨g1, g2⟩ := hy p y h
        by_cases c2 : y.1 < x.1
        · have ih2 := ih (.inr ⟨pre, x, rfl, rfl, by omega⟩)
          simp (disch := omega) only [decide_true, decide_false, decide_eq_true, decide_eq_false, if_pos, if_neg, wr, cond_true, cond_false, Bool.not_true, Bool.not_false, Bool.and_true, Bool.true_and, Bool.and_false, Bool.false_and, Bool.or_true, Bool.true_or, Bool.or_false, Bool.false_or, Option.bind_some, Int.toNat_natCast, Bool.and_self, Bool.or_self, Bool.cond_self, reduceIte, inR_eq, big_eq, beq_self_eq_true, List.nil_append, List.append_nil, List.length_nil, List.length_append, farOk, ih2, L_impl_EarOk_4, hx, i_in, hfr0, ii, g1]
        · simp (disch := omega) only [decide_true, decide_false, decide_eq_true, decide_eq_false, if_pos, if_neg, wr, cond_true, cond_false, Bool.not_true, Bool.not_false, Bool.and_true, Bool.true_and, Bool.and_false, Bool.false_and, Bool.or_true, Bool.true_or, Bool.or_false, Bool.false_or, Option.bind_some, Int.toNat_natCast, Bool.and_self, Bool.or_self, Bool.cond_self, reduceIte, inR_eq, big_eq, beq_self_eq_true, List.nil_append, List.append_nil, List.length_nil, List.length_append, farOk, L_impl_EarOk_4, hx, i_in, hfr0, ii, g1]
    · have ii : inn x.1 (m.next + 1) (m.next + m.free - 1) = false := by
        cases hh : inn x.1 (m.next + 1) (m.next + m.free - 1) with
        | false => rfl
        | true => rw [inn_iff] at hh; exact absurd hh c1
      have e : farOk (m.next + m.free) last (x :: suf) = false := by
        simp only [farOk]
        have hlast : m.next ≤ last := by rcases hp with ⟨_, h⟩ | ⟨_, _, _, h, _⟩ <;> omega
        by_cases a : last < x.1
        · have : ¬ x.1 < m.next + m.free := fun h => c1 (by omega)
          simp (disch := omega) only [decide_true, decide_false, decide_eq_true, decide_eq_false, if_pos, if_neg, wr, cond_true, cond_false, Bool.not_true, Bool.not_false, Bool.and_true, Bool.true_and, Bool.and_false, Bool.false_and, Bool.or_true, Bool.true_or, Bool.or_false, Bool.false_or, Option.bind_some, Int.toNat_natCast, Bool.and_self, Bool.or_self, Bool.cond_self, reduceIte, inR_eq, big_eq, beq_self_eq_true, List.nil_append, List.append_nil, List.length_nil, List.length_append]
        · simp (disch := omega) only [decide_true, decide_false, decide_eq_true, decide_eq_false, if_pos, if_neg, wr, cond_true, cond_false, Bool.not_true, Bool.not_false, Bool.and_true, Bool.true_and, Bool.and_false, Bool.false_and, Bool.or_true, Bool.true_or, Bool.or_false, Bool.false_or, Option.bind_some, Int.toNat_natCast, Bool.and_self, Bool.or_self, Bool.cond_self, reduceIte, inR_eq, big_eq, beq_self_eq_true, List.nil_append, List.append_nil, List.length_nil, List.length_append]
      rw [e]
      simp (disch := omega) only [decide_true, decide_false, decide_eq_true, decide_eq_false, if_pos, if_neg, wr, cond_true, cond_false, Bool.not_true, Bool.not_false, Bool.and_true, Bool.true_and, Bool.and_false, Bool.false_and, Bool.or_true, Bool.true_or, Bool.or_false, Bool.false_or, Option.bind_some, Int.toNat_natCast, Bool.and_self, Bool.or_self, Bool.cond_self, reduceIte, inR_eq, big_eq, beq_self_eq_true, List.nil_append, List.append_nil, List.length_nil, List.length_append, L_impl_EarOk_4, hx, i_in, hfr0, ii, Bool.or_true]
theorem i_EarOk (m : Ea) (hb : m.far.length ≤ 1000000000) (hg : m.got.length ≤ 1000000000) (hr : 0 ≤ m.room ∧ m.room ≤ 1000000000) : F_impl_EarOk m.e = some ((m.ok, ()), ()) := by
  have hfr : F_impl_Ear_free m.e = m.room - m.got.length := by simp (disch := omega) only [decide_true, decide_false, decide_eq_true, decide_eq_false, if_pos, if_neg, wr, cond_true, cond_false, Bool.not_true, Bool.not_false, Bool.and_true, Bool.true_and, Bool.and_false, Bool.false_and, Bool.or_true, Bool.true_or, Bool.or_false, Bool.false_or, Option.bind_some, Int.toNat_natCast, Bool.and_self, Bool.or_self, Bool.cond_self, reduceIte, inR_eq, big_eq, beq_self_eq_true, List.nil_append, List.append_nil, List.length_nil, List.length_append, F_impl_Ear_free]
  have hc : (!inn m.next 0 1000000 || !inn m.room 1 32 || decide (F_impl_Ear_free m.e < 0)) = !(inn m.next 0 1000000 && inn m.room 1 32 && decide ((m.got.length : Int) ≤ m.room)) := by
    rw [hfr, Bool.eq_iff_iff]; simp [inn]; omega
  simp only [F_impl_EarOk, i_in, Ea.ok, Bool.cond_true_left, hc]
  cases h : (inn m.next 0 1000000 && inn m.room 1 32 && decide ((m.got.length : Int) ≤ m.room)) with
  | true =>
    simp only [Bool.and_eq_true, inn_iff, decide_eq_true_eq] at h
    obtain ⟨⟨h1, h2⟩, h3⟩ := h
    rw [i_EarOk_l m h1.1 h1.2 (by omega) (by omega) h3 m.far [] fuel 0 m.next rfl (by rw [fuel_eq]; omega) (by simpa using hb) rfl (.inl ⟨rfl, rfl⟩)]
    rfl
  | false => rfl
theorem i_ClockOk (c : Ck) : F_impl_ClockOk c.e = c.ok := by
  simp only [F_impl_ClockOk, i_in, Ck.ok, Bool.cond_false_right]
theorem i_goes (e : Ed) : F_impl_End_goes e.e = e.opn := by
  have hk : decide (e.out.keep ≠ []) = decide (0 < (e.out.keep.length : Int)) := by
    rw [Bool.eq_iff_iff]; simp; exact List.length_pos_iff.symm
  simp only [F_impl_End_goes, Ed.opn, hk, Bool.cond_true_left, Bool.cond_false_right]
theorem i_lastOk_l (e : Ed) : ∀ (suf pre : List (Int × Int)) (n : Nat) (k : Int), e.ear.far = pre ++ suf → suf.length < n → pre.length + suf.length ≤ 1000000000 → k = pre.length →
    L_impl_End_lastOk_6 n ((), e.ear.far, (e.ear.far.length : Int), k, e.e, ()) = some (((suf.all fun x => decide (x.1 < e.plast)) && (inn e.plast e.ear.next 1000000 && decide (4 ≤ e.st)), ()), ())
  | [], pre, 0, k, he, hn, hl, hk => by simp at hn
  | [], pre, n + 1, k, he, hn, hl, hk => by
    have hlen : e.ear.far.length = pre.length := by rw [he]; simp
    simp (disch := omega) only [decide_true, decide_false, decide_eq_true, decide_eq_false, if_pos, if_neg, wr, cond_true, cond_false, Bool.not_true, Bool.not_false, Bool.and_true, Bool.true_and, Bool.and_false, Bool.false_and, Bool.or_true, Bool.true_or, Bool.or_false, Bool.false_or, Option.bind_some, Int.toNat_natCast, Bool.and_self, Bool.or_self, Bool.cond_self, reduceIte, inR_eq, big_eq, beq_self_eq_true, List.nil_append, List.append_nil, List.length_nil, List.length_append, L_impl_End_lastOk_6, i_in, List.all_nil, Bool.cond_false_right]
  | x :: suf, pre, 0, k, he, hn, hl, hk => by simp at hn
  | x :: suf, pre, n + 1, k, he, hn, hl, hk => by
    have hlen : e.ear.far.length = pre.length + (suf.length + 1) := by rw [he]; simp
    simp only [List.length_cons] at hl hn
    have hx : rdI (0, 0) e.ear.far k.toNat = x := by rw [he, hk, Int.toNat_natCast]; exact rd_app _ _ _ _
    have ih := i_lastOk_l e suf (pre ++ [x]) n (k + 1) (by simp [he]) (by omega) (by simp; omega) (by simp; omega)
    by_cases c : e.plast ≤ x.1
    · simp (disch := omega) only [decide_true, decide_false, decide_eq_true, decide_eq_false, if_pos, if_neg, wr, cond_true, cond_false, Bool.not_true, Bool.not_false, Bool.and_true, Bool.true_and, Bool.and_false, Bool.false_and, Bool.or_true, Bool.true_or, Bool.or_false, Bool.false_or, Option.bind_some, Int.toNat_natCast, Bool.and_self, Bool.or_self, Bool.cond_self, reduceIte, inR_eq, big_eq, beq_self_eq_true, List.nil_append, List.append_nil, List.length_nil, List.length_append, L_impl_End_lastOk_6, hx, List.all_cons]
    · simp (disch := omega) only [decide_true, decide_false, decide_eq_true, decide_eq_false, if_pos, if_neg, wr, cond_true, cond_false, Bool.not_true, Bool.not_false, Bool.and_true, Bool.true_and, Bool.and_false, Bool.false_and, Bool.or_true, Bool.true_or, Bool.or_false, Bool.false_or, Option.bind_some, Int.toNat_natCast, Bool.and_self, Bool.or_self, Bool.cond_self, reduceIte, inR_eq, big_eq, beq_self_eq_true, List.nil_append, List.append_nil, List.length_nil, List.length_append, L_impl_End_lastOk_6, hx, List.all_cons, ih]
theorem i_EndOk (e : Ed) (hb : e.ear.far.length ≤ 1000000000) (hg : e.ear.got.length ≤ 1000000000) (hr : 0 ≤ e.ear.room ∧ e.ear.room ≤ 1000000000) : F_impl_EndOk e.e = some ((e.ok, ()), ()) := by
  simp only [F_impl_EndOk, i_in, i_word, i_portOk, i_MouthOk, i_EarOk e.ear hb hg hr, i_ClockOk, Option.bind_some, Bool.cond_true_left, Bool.cond_false_right, Ed.ok, i_goes]
  cases a1 : inn e.st 0 5
  · rfl
  cases a2 : inn e.addr 0 65535
  · rfl
  cases a3 : inn e.paddr 0 65535
  · cases inn e.n 1 255 <;> rfl
  cases a4 : inn e.n 1 255
  · rfl
  cases a5 : inn e.pn 0 255
  · rfl
  cases a6 : inn e.base 0 65535
  · rfl
  cases a7 : e.out.ok
  · rfl
  obtain ⟨b1, b2, b3, b4, b5, _⟩ := Mo.ok_sent a7
  simp only [inn_iff] at a6 a1 a5
  by_cases a8 : e.out.heard ≤ e.base
  · simp (disch := omega) only [decide_true, decide_false, decide_eq_true, decide_eq_false, if_pos, if_neg, wr, cond_true, cond_false, Bool.not_true, Bool.not_false, Bool.and_true, Bool.true_and, Bool.and_false, Bool.false_and, Bool.or_true, Bool.true_or, Bool.or_false, Bool.false_or, Option.bind_some, Int.toNat_natCast, Bool.and_self, Bool.or_self, Bool.cond_self, reduceIte, inR_eq, big_eq, beq_self_eq_true, List.nil_append, List.append_nil, List.length_nil, List.length_append]
  cases a9 : e.ear.ok
  · simp (disch := omega) only [decide_true, decide_false, decide_eq_true, decide_eq_false, if_pos, if_neg, wr, cond_true, cond_false, Bool.not_true, Bool.not_false, Bool.and_true, Bool.true_and, Bool.and_false, Bool.false_and, Bool.or_true, Bool.true_or, Bool.or_false, Bool.false_or, Option.bind_some, Int.toNat_natCast, Bool.and_self, Bool.or_self, Bool.cond_self, reduceIte, inR_eq, big_eq, beq_self_eq_true, List.nil_append, List.append_nil, List.length_nil, List.length_append]
  cases a10 : e.pulse.ok
  · simp (disch := omega) only [decide_true, decide_false, decide_eq_true, decide_eq_false, if_pos, if_neg, wr, cond_true, cond_false, Bool.not_true, Bool.not_false, Bool.and_true, Bool.true_and, Bool.and_false, Bool.false_and, Bool.or_true, Bool.true_or, Bool.or_false, Bool.false_or, Option.bind_some, Int.toNat_natCast, Bool.and_self, Bool.or_self, Bool.cond_self, reduceIte, inR_eq, big_eq, beq_self_eq_true, List.nil_append, List.append_nil, List.length_nil, List.length_append]
  cases a11 : inn e.due 0 1000000
  · simp (disch := omega) only [decide_true, decide_false, decide_eq_true, decide_eq_false, if_pos, if_neg, wr, cond_true, cond_false, Bool.not_true, Bool.not_false, Bool.and_true, Bool.true_and, Bool.and_false, Bool.false_and, Bool.or_true, Bool.true_or, Bool.or_false, Bool.false_or, Option.bind_some, Int.toNat_natCast, Bool.and_self, Bool.or_self, Bool.cond_self, reduceIte, inR_eq, big_eq, beq_self_eq_true, List.nil_append, List.append_nil, List.length_nil, List.length_append]
  cases a12 : inn e.tries 0 8
  · simp (disch := omega) only [decide_true, decide_false, decide_eq_true, decide_eq_false, if_pos, if_neg, wr, cond_true, cond_false, Bool.not_true, Bool.not_false, Bool.and_true, Bool.true_and, Bool.and_false, Bool.false_and, Bool.or_true, Bool.true_or, Bool.or_false, Bool.false_or, Option.bind_some, Int.toNat_natCast, Bool.and_self, Bool.or_self, Bool.cond_self, reduceIte, inR_eq, big_eq, beq_self_eq_true, List.nil_append, List.append_nil, List.length_nil, List.length_append]
  simp only [inn_iff] at a11 a12
  have c1 : (e.lheard && !e.ltold || e.ltold && (!e.closed || !decide (e.out.sent = e.out.keep.length) || decide (e.st < 4))) = !((!e.lheard || e.ltold) && (!e.ltold || (e.closed && decide (e.out.sent = e.out.keep.length) && decide (4 ≤ e.st)))) := by
    have d2 : decide (e.st < 4) = !decide (4 ≤ e.st) := by rw [Bool.eq_iff_iff]; simp
    rw [d2]
    cases e.lheard <;> cases e.ltold <;> cases e.closed <;> simp
  have hlast : F_impl_End_lastOk e.e = some (((!e.lheard || e.ltold) && (!e.ltold || (e.closed && decide (e.out.sent = e.out.keep.length) && decide (4 ≤ e.st))) && (decide (e.plast = -1) || ((inn e.plast e.ear.next 1000000 && e.ear.far.all fun x => decide (x.1 < e.plast)) && decide (4 ≤ e.st))), ()), ()) := by
    simp only [F_impl_End_lastOk, Bool.cond_true_left, Bool.cond_false_right, c1]
    cases ((!e.lheard || e.ltold) && (!e.ltold || (e.closed && decide (e.out.sent = e.out.keep.length) && decide (4 ≤ e.st)))) with
    | false => rfl
    | true =>
      by_cases hp : e.plast = -1
      · simp (disch := omega) only [decide_true, decide_false, decide_eq_true, decide_eq_false, if_pos, if_neg, wr, cond_true, cond_false, Bool.not_true, Bool.not_false, Bool.and_true, Bool.true_and, Bool.and_false, Bool.false_and, Bool.or_true, Bool.true_or, Bool.or_false, Bool.false_or, Option.bind_some, Int.toNat_natCast, Bool.and_self, Bool.or_self, Bool.cond_self, reduceIte, inR_eq, big_eq, beq_self_eq_true, List.nil_append, List.append_nil, List.length_nil, List.length_append]
      · have := i_lastOk_l e e.ear.far [] fuel 0 rfl (by rw [fuel_eq]; omega) (by simpa using hb) rfl
        have d0 : decide (e.plast = -1) = false := decide_eq_false hp
        simp only [Bool.not_true, cond_false, d0, this, Bool.false_or, Bool.true_and]
        cases inn e.plast e.ear.next 1000000 <;> cases (e.ear.far.all fun x => decide (x.1 < e.plast)) <;> cases decide (4 ≤ e.st) <;> rfl
  rw [hlast]
  have c3 : (decide (e.pn = 0) == (decide (e.st = 0) || decide (e.st = 1))) = (decide (0 < e.pn) == decide (2 ≤ e.st)) := by
    have d1 : decide (0 < e.pn) = !decide (e.pn = 0) := by rw [Bool.eq_iff_iff]; simp; omega
    have d2 : decide (2 ≤ e.st) = !(decide (e.st = 0) || decide (e.st = 1)) := by rw [Bool.eq_iff_iff]; simp; omega
    rw [d1, d2]
    cases decide (e.pn = 0) <;> cases decide (e.st = 0) <;> cases decide (e.st = 1) <;> rfl
  have c4 : (decide (e.st < 4) && (!decide (e.out.sent = 0) || !decide (e.out.heard = IntKind.i64.wrap (e.base + 1)))) = !(decide (4 ≤ e.st) || (decide (e.out.sent = 0) && decide (e.out.heard = e.base + 1))) := by
    have d2 : decide (e.st < 4) = !decide (4 ≤ e.st) := by rw [Bool.eq_iff_iff]; simp
    rw [wr (by omega) (by omega), d2]
    cases decide (4 ≤ e.st) <;> cases decide (e.out.sent = 0) <;> cases decide (e.out.heard = e.base + 1) <;> rfl
  have w1 : decide (e.out.heard < IntKind.i64.wrap (e.base + 1)) = false := by rw [wr (by omega) (by omega)]; exact decide_eq_false (by omega)
  have w2 : decide (e.base < e.out.heard) = true := decide_eq_true (by omega)
  simp only [w1, w2, c3, c4, Option.bind_some, Bool.not_true, Bool.or_false, Bool.and_true, Bool.true_and, cond_false, Bool.false_or]
  cases (!e.lheard || e.ltold)
  · rfl
  cases (!e.ltold || (e.closed && decide (e.out.sent = e.out.keep.length) && decide (4 ≤ e.st)))
  · rfl
  generalize (e.opn || (decide (e.due = 0) && (decide (e.tries = 0) || decide (e.st = 5)))) = C
  generalize (decide (0 < e.pn) == decide (2 ≤ e.st)) = P
  generalize inn e.plast e.ear.next 1000000 = I
  generalize (e.ear.far.all fun x => decide (x.1 < e.plast)) = F
  generalize decide (4 ≤ e.st) = L
  generalize decide (e.out.sent = 0) = S
  generalize decide (e.out.heard = e.base + 1) = H
  generalize decide (e.plast = -1) = Q
  cases P <;> cases C <;> cases L <;> cases Q <;> cases I <;> cases F <;> cases S <;> cases H <;> rfl
end Go.VI.EwcVi
set_option linter.unusedVariables false
set_option linter.unusedSimpArgs false
namespace Go.VI.EwcVi
open Go Go.VI Go.VI.Ns

theorem i_Mouth_copy (m : Mo) (h1 : m.keep.length ≤ 1000000) (h2 : m.early.length ≤ 1000000) : F_impl_Mouth_copy m.e = some ((m.e, ()), ()) := by
  simp (disch := omega) only [decide_true, decide_false, decide_eq_true, decide_eq_false, if_pos, if_neg, wr, cond_true, cond_false, Bool.not_true, Bool.not_false, Bool.and_true, Bool.true_and, Bool.and_false, Bool.false_and, Bool.or_true, Bool.true_or, Bool.or_false, Bool.false_or, Option.bind_some, Int.toNat_natCast, Bool.and_self, Bool.or_self, Bool.cond_self, reduceIte, inR_eq, big_eq, beq_self_eq_true, List.nil_append, List.append_nil, List.length_nil, List.length_append, F_impl_Mouth_copy, i_cloneB m.keep h1, i_cloneR m.early h2]
theorem i_Ear_copy (m : Ea) (h1 : m.got.length ≤ 1000000) (h2 : m.far.length ≤ 1000000) : F_impl_Ear_copy m.e = some ((m.e, ()), ()) := by
  simp (disch := omega) only [decide_true, decide_false, decide_eq_true, decide_eq_false, if_pos, if_neg, wr, cond_true, cond_false, Bool.not_true, Bool.not_false, Bool.and_true, Bool.true_and, Bool.and_false, Bool.false_and, Bool.or_true, Bool.true_or, Bool.or_false, Bool.false_or, Option.bind_some, Int.toNat_natCast, Bool.and_self, Bool.or_self, Bool.cond_self, reduceIte, inR_eq, big_eq, beq_self_eq_true, List.nil_append, List.append_nil, List.length_nil, List.length_append, F_impl_Ear_copy, i_cloneB m.got h1, i_cloneE m.far h2]
theorem i_End_copy (e : Ed) (h : Small e) : F_impl_End_copy e.e = some ((e.e, ()), ()) := by
  obtain ⟨h1, h2, h3, h4⟩ := h
  simp (disch := omega) only [decide_true, decide_false, decide_eq_true, decide_eq_false, if_pos, if_neg, wr, cond_true, cond_false, Bool.not_true, Bool.not_false, Bool.and_true, Bool.true_and, Bool.and_false, Bool.false_and, Bool.or_true, Bool.true_or, Bool.or_false, Bool.false_or, Option.bind_some, Int.toNat_natCast, Bool.and_self, Bool.or_self, Bool.cond_self, reduceIte, inR_eq, big_eq, beq_self_eq_true, List.nil_append, List.append_nil, List.length_nil, List.length_append, F_impl_End_copy, i_Mouth_copy e.out h1 h2, i_Ear_copy e.ear h3 h4]
theorem i_EndOk_is {e : Ed} (h : e.Is) : F_impl_EndOk e.e = some ((true, ()), ()) := by
  obtain ⟨k1, k2, k3, k4, k5, k6, k7⟩ := Ea.ok_bd h.ear
  rw [i_EndOk e (Is.small h).2 (by omega) (by omega), (Ed.ok_iff e).2 h]
theorem i_asked {e : Ed} (h : e.Is) {now : Int} (hn : 0 ≤ now ∧ now ≤ 900000) : F_impl_asked e.e now = some ((true, ()), ()) := by
  have : inn now 0 900000 = true := by rw [inn_iff]; exact hn
  simp (disch := omega) only [decide_true, decide_false, decide_eq_true, decide_eq_false, if_pos, if_neg, wr, cond_true, cond_false, Bool.not_true, Bool.not_false, Bool.and_true, Bool.true_and, Bool.and_false, Bool.false_and, Bool.or_true, Bool.true_or, Bool.or_false, Bool.false_or, Option.bind_some, Int.toNat_natCast, Bool.and_self, Bool.or_self, Bool.cond_self, reduceIte, inR_eq, big_eq, beq_self_eq_true, List.nil_append, List.append_nil, List.length_nil, List.length_append, F_impl_asked, i_EndOk_is h, i_in, this]
theorem i_SeqOf (p : Int) : F_impl_SeqOf p = some ((seqOf p, ()), ()) := by
  have hb := tmod_bd p
  have h := tmod_seq p
  have e : (p.tmod 65536 + 65536).tmod 65536 = seqOf p := by
    rw [Int.tmod_eq_emod_of_nonneg (by omega)]
    have : seqOf p = p % 65536 := rfl
    rw [this, Int.tmod_eq_emod]
    split <;> omega
  simp (disch := omega) only [decide_true, decide_false, decide_eq_true, decide_eq_false, if_pos, if_neg, wr, cond_true, cond_false, Bool.not_true, Bool.not_false, Bool.and_true, Bool.true_and, Bool.and_false, Bool.false_and, Bool.or_true, Bool.true_or, Bool.or_false, Bool.false_or, Option.bind_some, Int.toNat_natCast, Bool.and_self, Bool.or_self, Bool.cond_self, reduceIte, inR_eq, big_eq, beq_self_eq_true, List.nil_append, List.append_nil, List.length_nil, List.length_append, F_impl_SeqOf, e]
theorem i_waits (e : Ed) (h1 : 0 ≤ e.ear.next) (h2 : e.ear.next ≤ 1000000000) : F_impl_End_waits e.e = some ((e.wait, ()), ()) := by
  by_cases h : e.plast = e.ear.next
  · simp (disch := omega) only [decide_true, decide_false, decide_eq_true, decide_eq_false, if_pos, if_neg, wr, cond_true, cond_false, Bool.not_true, Bool.not_false, Bool.and_true, Bool.true_and, Bool.and_false, Bool.false_and, Bool.or_true, Bool.true_or, Bool.or_false, Bool.false_or, Option.bind_some, Int.toNat_natCast, Bool.and_self, Bool.or_self, Bool.cond_self, reduceIte, inR_eq, big_eq, beq_self_eq_true, List.nil_append, List.append_nil, List.length_nil, List.length_append, F_impl_End_waits, Ed.wait]
  · simp (disch := omega) only [decide_true, decide_false, decide_eq_true, decide_eq_false, if_pos, if_neg, wr, cond_true, cond_false, Bool.not_true, Bool.not_false, Bool.and_true, Bool.true_and, Bool.and_false, Bool.false_and, Bool.or_true, Bool.true_or, Bool.or_false, Bool.false_or, Option.bind_some, Int.toNat_natCast, Bool.and_self, Bool.or_self, Bool.cond_self, reduceIte, inR_eq, big_eq, beq_self_eq_true, List.nil_append, List.append_nil, List.length_nil, List.length_append, F_impl_End_waits, Ed.wait]
/-! ### ranges -/
def rngStepA (out : List (Int × Int)) (x : Int × Int) : List (Int × Int) :=
  match out.getLast? with
  | some r => if r.2 = x.1 then out.dropLast ++ [(r.1, r.2 + 1)] else out ++ [(x.1, x.1 + 1)]
  | none => [(x.1, x.1 + 1)]
def rngA : List (Int × Int) → List (Int × Int) → List (Int × Int)
  | out, [] => out
  | out, x :: l => rngA (rngStepA out x) l
theorem rngA_app (o : List (Int × Int)) (r x : Int × Int) : rngStepA (o ++ [r]) x = if r.2 = x.1 then o ++ [(r.1, r.2 + 1)] else o ++ [r] ++ [(x.1, x.1 + 1)] := by
  simp [rngStepA]
theorem rngA_pre : ∀ (l : List (Int × Int)) (a b r : Int × Int) (o : List (Int × Int)), (rngA (a :: b :: o ++ [r]) l).take 2 = [a, b]
  | [], a, b, r, o => by simp [rngA]
  | x :: l, a, b, r, o => by
    unfold rngA
    rw [rngA_app]
    split
    · exact rngA_pre l a b _ o
    · have := rngA_pre l a b (x.1, x.1 + 1) (o ++ [r])
      simpa using this
theorem rngS_stop : ∀ (l : List (Int × Int)) (a r : Int × Int), (∀ x ∈ l, r.2 < x.1) → rngS [a, r] l = [a, r]
  | [], a, r, h => rfl
  | x :: l, a, r, h => by
    have hx := h x (by simp)
    have : rngStep [a, r] x = [a, r] := by simp [rngStep]; omega
    unfold rngS
    rw [this]
    exact rngS_stop l a r (fun y hy => h y (by simp [hy]))
theorem rngA_S : ∀ (l : List (Int × Int)) (out : List (Int × Int)) (to last : Int), out.length ≤ 2 → farOk to last l = true → (∀ r, out.getLast? = some r → r.2 ≤ last + 1) → (rngA out l).take 2 = rngS out l
  | [], out, to, last, ho, hf, hr => by simp only [rngA, rngS]; exact List.take_of_length_le ho
  | x :: l, out, to, last, ho, hf, hr => by
    simp only [farOk, Bool.and_eq_true, decide_eq_true_eq] at hf
    obtain ⟨⟨f1, f2⟩, f3⟩ := hf
    rcases List.eq_nil_or_concat out with hout | ⟨o, r, hout⟩
    · subst hout
      unfold rngA rngS
      exact rngA_S l _ to x.1 (by simp [rngStepA]) f3 (by intro r h; simp [rngStepA] at h; rw [← h]; simp)
    · rw [List.concat_eq_append] at hout
      subst hout
      have hr2 := hr r (by simp)
      unfold rngA rngS
      rw [rngA_app]
      by_cases hc : r.2 = x.1
      · have e : rngStep (o ++ [r]) x = o ++ [(r.1, r.2 + 1)] := by simp [rngStep, hc]
        rw [if_pos hc, e]
        exact rngA_S l _ to x.1 (by simpa using ho) f3 (by intro q h; simp at h; rw [← h]; simp only; omega)
      · rw [if_neg hc]
        by_cases h2 : o.length = 0
        · have e : rngStep (o ++ [r]) x = o ++ [r] ++ [(x.1, x.1 + 1)] := by simp [rngStep, hc, h2]
          rw [e]
          exact rngA_S l _ to x.1 (by simp only [List.length_append, List.length_singleton]; omega) f3 (by intro q h; simp at h; rw [← h]; simp)
        · have hol : o.length = 1 := by simp at ho; omega
          obtain ⟨a, rfl⟩ := List.length_eq_one_iff.1 hol
          have e : rngStep ([a] ++ [r]) x = [a] ++ [r] := by simp [rngStep, hc]
          rw [e]
          have e2 := rngS_stop l a r (fun y hy => by have := (farOk_mem f3 y hy).1; omega)
          have e3 := rngA_pre l a r (x.1, x.1 + 1) []
          simpa [e2] using e3
theorem rngA_len : ∀ (l out : List (Int × Int)), (rngA out l).length ≤ out.length + l.length
  | [], out => by simp [rngA]
  | x :: l, out => by
    unfold rngA
    refine Nat.le_trans (rngA_len l _) ?_
    have : (rngStepA out x).length ≤ out.length + 1 := by
      rcases List.eq_nil_or_concat out with rfl | ⟨o, r, rfl⟩
      · simp [rngStepA]
      · rw [List.concat_eq_append, rngA_app]
        split <;> simp
    simp only [List.length_cons]; omega
theorem i_ranges_l : ∀ (suf pre out l0 : List (Int × Int)) (n : Nat) (k : Int), l0 = pre ++ suf → (∀ x ∈ suf, 0 ≤ x.1 ∧ x.1 ≤ 2000000) → suf.length < n → out.length + suf.length ≤ 500000 ∧ pre.length + suf.length ≤ 500000 → k = pre.length → (∀ r ∈ out, -1000000000000 ≤ r.2 ∧ r.2 + suf.length ≤ 1000000000000) →
    L_impl_Ear_ranges_3 n (out, l0, (l0.length : Int), k, ()) = some (((rngA out suf).take 2, ()), ())
  | [], pre, out, l0, 0, k, he, _, hn, hl, hk, hr => by simp at hn
  | [], pre, out, l0, n + 1, k, he, _, hn, hl, hk, hr => by
    have hlen : l0.length = pre.length := by rw [he]; simp
    simp only [List.length_nil, Nat.add_zero] at hl
    by_cases hc : (2 : Int) < out.length
    · have hcl := i_cloneR (out.take 2) (by simp; omega)
      simp (disch := omega) only [decide_true, decide_false, decide_eq_true, decide_eq_false, if_pos, if_neg, wr, cond_true, cond_false, Bool.not_true, Bool.not_false, Bool.and_true, Bool.true_and, Bool.and_false, Bool.false_and, Bool.or_true, Bool.true_or, Bool.or_false, Bool.false_or, Option.bind_some, Int.toNat_natCast, Bool.and_self, Bool.or_self, Bool.cond_self, reduceIte, inR_eq, big_eq, beq_self_eq_true, List.nil_append, List.append_nil, List.length_nil, List.length_append, L_impl_Ear_ranges_3, rngA, List.drop_zero, Int.reduceToNat, hcl]
    · have ht : out.take 2 = out := List.take_of_length_le (by omega)
      have hcl := i_cloneR out (by omega)
      simp (disch := omega) only [decide_true, decide_false, decide_eq_true, decide_eq_false, if_pos, if_neg, wr, cond_true, cond_false, Bool.not_true, Bool.not_false, Bool.and_true, Bool.true_and, Bool.and_false, Bool.false_and, Bool.or_true, Bool.true_or, Bool.or_false, Bool.false_or, Option.bind_some, Int.toNat_natCast, Bool.and_self, Bool.or_self, Bool.cond_self, reduceIte, inR_eq, big_eq, beq_self_eq_true, List.nil_append, List.append_nil, List.length_nil, List.length_append, L_impl_Ear_ranges_3, rngA, List.drop_zero, List.take_length, hcl, ht]
  | x :: suf, pre, out, l0, 0, k, he, _, hn, hl, hk, hr => by simp at hn
  | x :: suf, pre, out, l0, n + 1, k, he, hx0, hn, hl, hk, hr => by
    have hlen : l0.length = pre.length + (suf.length + 1) := by rw [he]; simp
    simp only [List.length_cons] at hl hn
    have hx : rdI (0, 0) l0 k.toNat = x := by rw [he, hk, Int.toNat_natCast]; exact rd_app _ _ _ _
    obtain ⟨hx1, hx2⟩ := hx0 x (by simp)
    have ih := fun out hl hr => i_ranges_l suf (pre ++ [x]) out l0 n (k + 1) (by simp [he]) (fun y hy => hx0 y (by simp [hy])) (by omega) hl (by simp; omega) hr
    rcases List.eq_nil_or_concat out with hout | ⟨o, r, hout⟩
    · subst hout
      simp only [List.length_nil] at hl
      have ih := ih [(x.1, x.1 + 1)] (by simp; omega) (by simp; omega)
      have e : rngA [] (x :: suf) = rngA [(x.1, x.1 + 1)] suf := rfl
      simp (disch := omega) only [decide_true, decide_false, decide_eq_true, decide_eq_false, if_pos, if_neg, wr, cond_true, cond_false, Bool.not_true, Bool.not_false, Bool.and_true, Bool.true_and, Bool.and_false, Bool.false_and, Bool.or_true, Bool.true_or, Bool.or_false, Bool.false_or, Option.bind_some, Int.toNat_natCast, Bool.and_self, Bool.or_self, Bool.cond_self, reduceIte, inR_eq, big_eq, beq_self_eq_true, List.nil_append, List.append_nil, List.length_nil, List.length_append, L_impl_Ear_ranges_3, hx, e, ih, List.length_cons, Int.natCast_zero, Nat.zero_add]
    · rw [List.concat_eq_append] at hout
      subst hout
      have hol : (o ++ [r]).length = o.length + 1 := by simp
      obtain ⟨hr1, hr2⟩ := hr r (by simp)
      simp only [List.length_cons] at hr2
      rw [hol] at hl
      have hrd : rdI (0, 0) (o ++ [r]) (((o.length + 1 : Nat) : Int) - 1).toNat = r := by rw [show (((o.length + 1 : Nat) : Int) - 1).toNat = o.length by omega]; exact rd_app _ _ _ _
      by_cases hc : r.2 = x.1
      · have e : rngA (o ++ [r]) (x :: suf) = rngA (o ++ [(r.1, r.2 + 1)]) suf := by rw [rngA, rngA_app, if_pos hc]
        have hset : (o ++ [r]).set (((o.length + 1 : Nat) : Int) - 1).toNat (r.1, r.2 + 1) = o ++ [(r.1, r.2 + 1)] := by
          rw [show (((o.length + 1 : Nat) : Int) - 1).toNat = o.length by omega]; simp
        have ih := ih (o ++ [(r.1, r.2 + 1)]) (by simp; omega) (fun z hz => by
          rcases List.mem_append.1 hz with hz | hz
          · have := hr z (by simp [hz]); simp only [List.length_cons] at this; omega
          · simp at hz; subst hz; simp only; omega)
        simp (disch := omega) only [decide_true, decide_false, decide_eq_true, decide_eq_false, if_pos, if_neg, wr, cond_true, cond_false, Bool.not_true, Bool.not_false, Bool.and_true, Bool.true_and, Bool.and_false, Bool.false_and, Bool.or_true, Bool.true_or, Bool.or_false, Bool.false_or, Option.bind_some, Int.toNat_natCast, Bool.and_self, Bool.or_self, Bool.cond_self, reduceIte, inR_eq, big_eq, beq_self_eq_true, List.nil_append, List.append_nil, List.length_nil, List.length_append, L_impl_Ear_ranges_3, hx, hol, hrd, hset, e, ih]
      · have e : rngA (o ++ [r]) (x :: suf) = rngA (o ++ [r] ++ [(x.1, x.1 + 1)]) suf := by rw [rngA, rngA_app, if_neg hc]
        have ih := ih (o ++ [r] ++ [(x.1, x.1 + 1)]) (by simp; omega) (fun z hz => by
          rcases List.mem_append.1 hz with hz | hz
          · have := hr z hz; simp only [List.length_cons] at this; omega
          · simp at hz; subst hz; simp only; omega)
        simp (disch := omega) only [decide_true, decide_false, decide_eq_true, decide_eq_false, if_pos, if_neg, wr, cond_true, cond_false, Bool.not_true, Bool.not_false, Bool.and_true, Bool.true_and, Bool.and_false, Bool.false_and, Bool.or_true, Bool.true_or, Bool.or_false, Bool.false_or, Option.bind_some, Int.toNat_natCast, Bool.and_self, Bool.or_self, Bool.cond_self, reduceIte, inR_eq, big_eq, beq_self_eq_true, List.nil_append, List.append_nil, List.length_nil, List.length_append, L_impl_Ear_ranges_3, hx, hol, hrd, e, ih, List.length_cons, List.length_nil]
theorem i_ranges (e : Ea) (h : e.ok = true) : F_impl_Ear_ranges e.e = some ((rngS [] e.far, ()), ()) := by
  obtain ⟨h1, h2, h3, h4, h5, h6, h7⟩ := Ea.ok_bd h
  have hf := Ea.ok_far h
  have := i_ranges_l e.far [] [] e.far fuel 0 rfl (fun x hx => by have := h7 x hx; omega) (by rw [fuel_eq]; omega) (by simp; omega) rfl (by simp)
  rw [rngA_S e.far [] _ _ (by simp) h6 (by simp)] at this
  exact this
theorem i_Segment_copy (s : Sg) (h1 : s.ranges.length ≤ 1000000) (h2 : s.data.length ≤ 1000000) : F_impl_Segment_copy s.e = some ((s.e, ()), ()) := by
  simp (disch := omega) only [decide_true, decide_false, decide_eq_true, decide_eq_false, if_pos, if_neg, wr, cond_true, cond_false, Bool.not_true, Bool.not_false, Bool.and_true, Bool.true_and, Bool.and_false, Bool.false_and, Bool.or_true, Bool.true_or, Bool.or_false, Bool.false_or, Option.bind_some, Int.toNat_natCast, Bool.and_self, Bool.or_self, Bool.cond_self, reduceIte, inR_eq, big_eq, beq_self_eq_true, List.nil_append, List.append_nil, List.length_nil, List.length_append, F_impl_Segment_copy, i_cloneR _ h1, i_cloneB _ h2]
theorem i_segment_l (s0 : Sg) (zz : TSegment) (l0 : List (Int × Int)) (hd : s0.data.length ≤ 1000000) : ∀ (suf pre acc : List (Int × Int)) (n : Nat) (k : Int), l0 = pre ++ suf → suf.length < n → pre.length + suf.length ≤ 1000 → acc.length + suf.length ≤ 1000 → k = pre.length →
    L_impl_End_segment_3 n ((), (), l0, (l0.length : Int), k, zz, ({ s0 with ranges := acc } : Sg).e, ()) = some ((({ s0 with ranges := acc ++ suf.map fun r => (seqOf r.1, seqOf r.2) } : Sg).e, ()), ())
  | [], pre, acc, 0, k, he, hn, hl, ha, hk => by simp at hn
  | [], pre, acc, n + 1, k, he, hn, hl, ha, hk => by
    have hlen : l0.length = pre.length := by rw [he]; simp
    simp only [List.length_nil, Nat.add_zero] at ha
    have hc := i_Segment_copy { s0 with ranges := acc } (by simp only; omega) hd
    simp only [Sg.e] at hc
    simp (disch := omega) only [decide_true, decide_false, decide_eq_true, decide_eq_false, if_pos, if_neg, wr, cond_true, cond_false, Bool.not_true, Bool.not_false, Bool.and_true, Bool.true_and, Bool.and_false, Bool.false_and, Bool.or_true, Bool.true_or, Bool.or_false, Bool.false_or, Option.bind_some, Int.toNat_natCast, Bool.and_self, Bool.or_self, Bool.cond_self, reduceIte, inR_eq, big_eq, beq_self_eq_true, List.nil_append, List.append_nil, List.length_nil, List.length_append, L_impl_End_segment_3, List.map_nil, hc]
  | x :: suf, pre, acc, 0, k, he, hn, hl, ha, hk => by simp at hn
  | x :: suf, pre, acc, n + 1, k, he, hn, hl, ha, hk => by
    simp only [List.length_cons] at hl hn ha
    have hlen : l0.length = pre.length + (suf.length + 1) := by rw [he]; simp
    have hx : rdI (0, 0) l0 k.toNat = x := by rw [he, hk, Int.toNat_natCast]; exact rd_app _ _ _ _
    have ih := i_segment_l s0 zz l0 hd suf (pre ++ [x]) (acc ++ [(seqOf x.1, seqOf x.2)]) n (k + 1) (by simp [he]) (by omega) (by simp; omega) (by simp; omega) (by simp; omega)
    simp (disch := omega) only [decide_true, decide_false, decide_eq_true, decide_eq_false, if_pos, if_neg, wr, cond_true, cond_false, Bool.not_true, Bool.not_false, Bool.and_true, Bool.true_and, Bool.and_false, Bool.false_and, Bool.or_true, Bool.true_or, Bool.or_false, Bool.false_or, Option.bind_some, Int.toNat_natCast, Bool.and_self, Bool.or_self, Bool.cond_self, reduceIte, inR_eq, big_eq, beq_self_eq_true, List.nil_append, List.append_nil, List.length_nil, List.length_append, L_impl_End_segment_3, hx, i_SeqOf, List.length_cons]
    refine (show _ = _ from ih).trans ?_
    simp
theorem i_segment (e : Ed) (at_ : Int) (d : List Int) (he : e.ear.ok = true) (hd : d.length ≤ 1000000) (h2 : e.st ≠ 2) : F_impl_End_segment e.e at_ d = some ((({ e.seg at_ with data := d } : Sg).e, ()), ()) := by
  obtain ⟨h1, h2', h3, h4, h5, h6, h7⟩ := Ea.ok_bd he
  have hl := rngS_len e.ear.far [] (by simp)
  have := i_segment_l ⟨e.n, e.pn, seqOf at_, seqOf e.wait, e.ear.free, false, true, false, false, [], d⟩ ((0 : Int), (0 : Int), (0 : Int), (0 : Int), (0 : Int), false, false, false, false, ([] : List TRange), ([] : List Int)) (rngS [] e.ear.far) hd (rngS [] e.ear.far) [] [] fuel 0 rfl (by rw [fuel_eq]; omega) (by simp; omega) (by simp; omega) rfl
  simp only [List.nil_append] at this
  simp (disch := omega) only [decide_true, decide_false, decide_eq_true, decide_eq_false, if_pos, if_neg, wr, cond_true, cond_false, Bool.not_true, Bool.not_false, Bool.and_true, Bool.true_and, Bool.and_false, Bool.false_and, Bool.or_true, Bool.true_or, Bool.or_false, Bool.false_or, Option.bind_some, Int.toNat_natCast, Bool.and_self, Bool.or_self, Bool.cond_self, reduceIte, inR_eq, big_eq, beq_self_eq_true, List.nil_append, List.append_nil, List.length_nil, List.length_append, F_impl_End_segment, i_SeqOf, i_waits e h1 (by omega), i_ranges e.ear he, i_Ear_free e.ear (by omega) (by omega), this, Ed.seg, Ed.rng]
end Go.VI.EwcVi
set_option linter.unusedVariables false
set_option linter.unusedSimpArgs false
namespace Go.VI.EwcVi
open Go Go.VI Go.VI.Ns

theorem i_Grow (n : Int) (h : 0 ≤ n ∧ n ≤ 1000000) : F_slices_Grow_byte_byte () n = some (([], ()), ()) := by
  by_cases h0 : 0 < n
  · have hb : (List.replicate n.toNat (0 : Int)).length = n.toNat := List.length_replicate
    have hz : (List.replicate n.toNat (0 : Int)).take (0 : Int).toNat = [] := rfl
    simp (disch := omega) only [decide_true, decide_false, decide_eq_true, decide_eq_false, if_pos, if_neg, wr, cond_true, cond_false, Bool.not_true, Bool.not_false, Bool.and_true, Bool.true_and, Bool.and_false, Bool.false_and, Bool.or_true, Bool.true_or, Bool.or_false, Bool.false_or, Option.bind_some, Int.toNat_natCast, Bool.and_self, Bool.or_self, Bool.cond_self, reduceIte, inR_eq, big_eq, beq_self_eq_true, List.nil_append, List.append_nil, List.length_nil, List.length_append, F_slices_Grow_byte_byte, Int.sub_self, Int.sub_zero, hb, hz, Nat.zero_add]
  · simp (disch := omega) only [decide_true, decide_false, decide_eq_true, decide_eq_false, if_pos, if_neg, wr, cond_true, cond_false, Bool.not_true, Bool.not_false, Bool.and_true, Bool.true_and, Bool.and_false, Bool.false_and, Bool.or_true, Bool.true_or, Bool.or_false, Bool.false_or, Option.bind_some, Int.toNat_natCast, Bool.and_self, Bool.or_self, Bool.cond_self, reduceIte, inR_eq, big_eq, beq_self_eq_true, List.nil_append, List.append_nil, List.length_nil, List.length_append, F_slices_Grow_byte_byte, Int.sub_self, Int.sub_zero]
theorem i_Concat (a b : List Int) (ha : a.length ≤ 100000) (hb : b.length ≤ 100000) : F_slices_Concat_byte_byte [a, b] = some ((a ++ b, ()), ()) := by
  obtain ⟨f, hf⟩ : ∃ f, fuel = f + 3 := ⟨fuel - 3, by rw [fuel_eq]⟩
  have r0 : rdI ([] : List Int) [a, b] (0 : Int).toNat = a := rfl
  have r1 : rdI ([] : List Int) [a, b] (0 + 1 : Int).toNat = b := rfl
  have hl : (([a, b] : List (List Int)).length : Int) = 2 := rfl
  have hl2 : ([a, b] : List (List Int)).length = 2 := rfl
  have h11 : L_slices_Concat_byte_byte_11 fuel ([], [a, b], ((2 : Nat) : Int), 0, ()) = some ((a ++ b, ()), ()) := by
    rw [hf]
    simp (disch := omega) only [decide_true, decide_false, decide_eq_true, decide_eq_false, if_pos, if_neg, wr, cond_true, cond_false, Bool.not_true, Bool.not_false, Bool.and_true, Bool.true_and, Bool.and_false, Bool.false_and, Bool.or_true, Bool.true_or, Bool.or_false, Bool.false_or, Option.bind_some, Int.toNat_natCast, Bool.and_self, Bool.or_self, Bool.cond_self, reduceIte, inR_eq, big_eq, beq_self_eq_true, List.nil_append, List.append_nil, List.length_nil, List.length_append, L_slices_Concat_byte_byte_11, r0, r1, hl2, Nat.zero_add]
  have hg := i_Grow ((a.length : Int) + b.length) (by omega)
  have w0 : IntKind.i64.wrap (0 + (a.length : Int)) = a.length := by rw [wr (by omega) (by omega)]; omega
  have h3 : L_slices_Concat_byte_byte_3 (f + 3) ([a, b], 0, [a, b], 2, 0, ()) = some ((a ++ b, ()), ()) := by
    simp (disch := omega) only [decide_true, decide_false, decide_eq_true, decide_eq_false, if_pos, if_neg, wr, cond_true, cond_false, Bool.not_true, Bool.not_false, Bool.and_true, Bool.true_and, Bool.and_false, Bool.false_and, Bool.or_true, Bool.true_or, Bool.or_false, Bool.false_or, Option.bind_some, Int.toNat_natCast, Bool.and_self, Bool.or_self, Bool.cond_self, reduceIte, inR_eq, big_eq, beq_self_eq_true, List.nil_append, List.append_nil, List.length_nil, List.length_append, L_slices_Concat_byte_byte_3, r0, r1, hl2, w0, hg, h11]
  unfold F_slices_Concat_byte_byte
  rw [hf, hl]
  exact h3
theorem i_MouthWrite (m : Mo) (data : List Int) (h : m.ok = true) (hd : data.length ≤ 100000) : F_impl_MouthWrite m.e data = some (((m.write data).e, m.writeN data, ()), ()) := by
  obtain ⟨h1, h2, h3, h4, h5, h6, h7, h8, h9⟩ := Mo.ok_sent h
  by_cases hc : 32 - (m.keep.length : Int) < data.length
  · have ht : (32 - (m.keep.length : Int)).toNat = 32 - m.keep.length := by omega
    have hl : (data.take (32 - m.keep.length)).length ≤ 32 := by simp; omega
    have hcp := i_Mouth_copy (m.write data) (by simp only [Mo.write, List.length_append]; omega) (by simp only [Mo.write]; omega)
    simp only [Mo.e, Mo.write] at hcp
    simp (disch := omega) only [decide_true, decide_false, decide_eq_true, decide_eq_false, if_pos, if_neg, wr, cond_true, cond_false, Bool.not_true, Bool.not_false, Bool.and_true, Bool.true_and, Bool.and_false, Bool.false_and, Bool.or_true, Bool.true_or, Bool.or_false, Bool.false_or, Option.bind_some, Int.toNat_natCast, Bool.and_self, Bool.or_self, Bool.cond_self, reduceIte, inR_eq, big_eq, beq_self_eq_true, List.nil_append, List.append_nil, List.length_nil, List.length_append, F_impl_MouthWrite, i_MouthOk, h, Mo.write, Mo.writeN, ht, i_Concat m.keep (data.take (32 - m.keep.length)) (by omega) (by omega), hcp]
  · have ht : data.take (32 - m.keep.length) = data := List.take_of_length_le (by omega)
    have ht2 : data.take data.length = data := List.take_length
    have hcp := i_Mouth_copy (m.write data) (by simp only [Mo.write, List.length_append, ht]; omega) (by simp only [Mo.write]; omega)
    simp only [Mo.e, Mo.write, ht] at hcp
    simp (disch := omega) only [decide_true, decide_false, decide_eq_true, decide_eq_false, if_pos, if_neg, wr, cond_true, cond_false, Bool.not_true, Bool.not_false, Bool.and_true, Bool.true_and, Bool.and_false, Bool.false_and, Bool.or_true, Bool.true_or, Bool.or_false, Bool.false_or, Option.bind_some, Int.toNat_natCast, Bool.and_self, Bool.or_self, Bool.cond_self, reduceIte, inR_eq, big_eq, beq_self_eq_true, List.nil_append, List.append_nil, List.length_nil, List.length_append, F_impl_MouthWrite, i_MouthOk, h, Mo.write, Mo.writeN, ht, ht2, i_Concat m.keep data (by omega) (by omega), hcp]
theorem i_Mouth_next (m : Mo) (l : Int) (h : m.ok = true) (hl : 1 ≤ l ∧ l ≤ 12) : F_impl_Mouth_next m.e l = some ((m.heard + m.sent, m.nxtB l, ()), ((m.nxt l).e, ())) := by
  obtain ⟨h1, h2, h3, h4, h5, h6, h7, h8, h9⟩ := Mo.ok_sent h
  have hlen : ∀ x : Int, ((m.keep.take x.toNat).drop m.sent.toNat).length ≤ 1000000 := by intro x; simp; omega
  have w1 : IntKind.i64.wrap (m.room - m.sent) = m.room - m.sent := wr (by omega) (by omega)
  have w2 : IntKind.i64.wrap (m.keep.length - m.sent) = m.keep.length - m.sent := wr (by omega) (by omega)
  have w3 : IntKind.i64.wrap (m.heard + m.sent) = m.heard + m.sent := wr (by omega) (by omega)
  have key : (if m.room - m.sent < (if (m.keep.length : Int) - m.sent < l then (m.keep.length : Int) - m.sent else l) then m.room - m.sent else (if (m.keep.length : Int) - m.sent < l then (m.keep.length : Int) - m.sent else l)) = m.upto l - m.sent := by
    unfold Mo.upto
    split <;> split <;> omega
  have hle := m.upto_le l
  by_cases hc : m.upto l ≤ m.sent
  · have e1 : m.nxt l = m := by unfold Mo.nxt; rw [if_pos hc]
    have e2 : m.nxtB l = [] := by unfold Mo.nxtB; rw [if_pos hc]
    simp only [F_impl_Mouth_next, w1, w2, w3, key]
    simp (disch := omega) only [decide_true, decide_false, decide_eq_true, decide_eq_false, if_pos, if_neg, wr, cond_true, cond_false, Bool.not_true, Bool.not_false, Bool.and_true, Bool.true_and, Bool.and_false, Bool.false_and, Bool.or_true, Bool.true_or, Bool.or_false, Bool.false_or, Option.bind_some, Int.toNat_natCast, Bool.and_self, Bool.or_self, Bool.cond_self, reduceIte, inR_eq, big_eq, beq_self_eq_true, List.nil_append, List.append_nil, List.length_nil, List.length_append, e1, e2]
  · have e1 : m.nxt l = { m with sent := m.upto l } := by unfold Mo.nxt; rw [if_neg hc]
    have e2 : m.nxtB l = (m.keep.take (m.upto l).toNat).drop m.sent.toNat := by unfold Mo.nxtB; rw [if_neg hc]
    have w4 : IntKind.i64.wrap (m.sent + (m.upto l - m.sent)) = m.upto l := by rw [wr (by omega) (by omega)]; omega
    simp only [F_impl_Mouth_next, w1, w2, w3, key, w4]
    simp (disch := omega) only [decide_true, decide_false, decide_eq_true, decide_eq_false, if_pos, if_neg, wr, cond_true, cond_false, Bool.not_true, Bool.not_false, Bool.and_true, Bool.true_and, Bool.and_false, Bool.false_and, Bool.or_true, Bool.true_or, Bool.or_false, Bool.false_or, Option.bind_some, Int.toNat_natCast, Bool.and_self, Bool.or_self, Bool.cond_self, reduceIte, inR_eq, big_eq, beq_self_eq_true, List.nil_append, List.append_nil, List.length_nil, List.length_append, e1, e2, i_cloneB _ (hlen (m.upto l))]
theorem i_tellBytes_l : ∀ (n k : Nat) (e : Ed) (l : List Sg), e.out.ok = true → e.ear.ok = true → k ≤ n → l.length + k ≤ 1000 → (e.out.keep.length : Int) - e.out.sent < k → 0 < k →
    L_impl_End_tellBytes_2 n ((), l.map Sg.e, e.e, ()) = some (((Ed.bytes k e l).2.map Sg.e, ()), ((Ed.bytes k e l).1.e, ()))
  | 0, k, e, l, ho, he, hk, hl, hs, hp => by omega
  | n + 1, 0, e, l, ho, he, hk, hl, hs, hp => by omega
  | n + 1, k + 1, e, l, ho, he, hk, hl, hs, hp => by
    have hn := i_Mouth_next e.out 12 ho (by omega)
    obtain ⟨h1, h2, h3, h4, h5, h6, h7, h8, h9⟩ := Mo.ok_sent ho
    by_cases h4 : e.st = 4
    · by_cases hb : e.out.nxtB 12 = []
      · have e1 : Ed.bytes (k + 1) e l = (e, l) := by simp [Ed.bytes, hb]
        have hb' : ((e.out.nxtB 12).length : Int) = 0 := by rw [hb]; rfl
        have hnx : e.out.nxt 12 = e.out := by
          unfold Mo.nxt
          split
          · rfl
          · rename_i hu
            exfalso
            have hle := e.out.upto_le 12
            unfold Mo.nxtB at hb
            rw [if_neg hu] at hb
            have := congrArg List.length hb
            simp at this
            omega
        simp (disch := omega) only [decide_true, decide_false, decide_eq_true, decide_eq_false, if_pos, if_neg, wr, cond_true, cond_false, Bool.not_true, Bool.not_false, Bool.and_true, Bool.true_and, Bool.and_false, Bool.false_and, Bool.or_true, Bool.true_or, Bool.or_false, Bool.false_or, Option.bind_some, Int.toNat_natCast, Bool.and_self, Bool.or_self, Bool.cond_self, reduceIte, inR_eq, big_eq, beq_self_eq_true, List.nil_append, List.append_nil, List.length_nil, List.length_append, L_impl_End_tellBytes_2, hn, hb', e1, hnx]
      · have e1 : Ed.bytes (k + 1) e l = Ed.bytes k { e with out := e.out.nxt 12 } (l ++ [{ ({ e with out := e.out.nxt 12 } : Ed).seg (e.out.heard + e.out.sent) with data := e.out.nxtB 12 }]) := by
          rw [Ed.bytes, if_pos ⟨h4, hb⟩]
        have hb' : 0 < ((e.out.nxtB 12).length : Int) := by have := List.length_pos_iff.2 hb; omega
        have hup : ¬ e.out.upto 12 ≤ e.out.sent := by intro hh; apply hb; unfold Mo.nxtB; rw [if_pos hh]
        have hsent : (e.out.nxt 12).sent = e.out.upto 12 ∧ (e.out.nxt 12).keep = e.out.keep := by unfold Mo.nxt; rw [if_neg hup]; exact ⟨rfl, rfl⟩
        have hle := e.out.upto_le 12
        have ok' := Mo.nxt_ok ho 12
        have hseg := i_segment { e with out := e.out.nxt 12 } (e.out.heard + e.out.sent) (e.out.nxtB 12) he (by have := e.out.nxtB_len; omega) (by simp only; omega)
        by_cases hk0 : k = 0
        · subst hk0; omega
        · have ih := i_tellBytes_l n k { e with out := e.out.nxt 12 } (l ++ [{ ({ e with out := e.out.nxt 12 } : Ed).seg (e.out.heard + e.out.sent) with data := e.out.nxtB 12 }]) ok' he (by omega) (by simp; omega) (by simp only [hsent.1, hsent.2]; omega) (by omega)
          rw [List.map_append] at ih
          simp (disch := omega) only [decide_true, decide_false, decide_eq_true, decide_eq_false, if_pos, if_neg, wr, cond_true, cond_false, Bool.not_true, Bool.not_false, Bool.and_true, Bool.true_and, Bool.and_false, Bool.false_and, Bool.or_true, Bool.true_or, Bool.or_false, Bool.false_or, Option.bind_some, Int.toNat_natCast, Bool.and_self, Bool.or_self, Bool.cond_self, reduceIte, inR_eq, big_eq, beq_self_eq_true, List.nil_append, List.append_nil, List.length_nil, List.length_append, L_impl_End_tellBytes_2, hn, hseg, e1, List.length_map, List.length_cons]
          exact ih
    · have e1 : Ed.bytes (k + 1) e l = (e, l) := by simp [Ed.bytes, h4]
      simp (disch := omega) only [decide_true, decide_false, decide_eq_true, decide_eq_false, if_pos, if_neg, wr, cond_true, cond_false, Bool.not_true, Bool.not_false, Bool.and_true, Bool.true_and, Bool.and_false, Bool.false_and, Bool.or_true, Bool.true_or, Bool.or_false, Bool.false_or, Option.bind_some, Int.toNat_natCast, Bool.and_self, Bool.or_self, Bool.cond_self, reduceIte, inR_eq, big_eq, beq_self_eq_true, List.nil_append, List.append_nil, List.length_nil, List.length_append, L_impl_End_tellBytes_2, e1]
theorem i_tellBytes (e : Ed) (ho : e.out.ok = true) (he : e.ear.ok = true) : F_impl_End_tellBytes e.e = some ((e.tellB.2.map Sg.e, ()), (e.tellB.1.e, ())) := by
  obtain ⟨h1, h2, h3, h4, h5, h6, h7, h8, h9⟩ := Mo.ok_sent ho
  exact i_tellBytes_l fuel 40 e [] ho he (by rw [fuel_eq]; omega) (by simp) (by omega) (by omega)
/-- arming, as the program does it -/
theorem i_arm (e : Ed) (now : Int) (h1 : 0 ≤ now ∧ now ≤ 1000000) (h2 : 0 ≤ e.pulse.wait ∧ e.pulse.wait ≤ 1000000) (hc : e.opn = false → e.due = 0 ∧ (e.tries = 0 ∨ e.st = 5)) : F_impl_End_arm e.e now = some ((), ((e.arm now false).e, ())) := by
  cases ho : e.opn with
  | true =>
    by_cases hd : e.due = 0
    · have e1 : e.arm now false = { e with due := now + e.pulse.wait } := by unfold Ed.arm; rw [ho]; simp [hd]
      simp (disch := omega) only [decide_true, decide_false, decide_eq_true, decide_eq_false, if_pos, if_neg, wr, cond_true, cond_false, Bool.not_true, Bool.not_false, Bool.and_true, Bool.true_and, Bool.and_false, Bool.false_and, Bool.or_true, Bool.true_or, Bool.or_false, Bool.false_or, Option.bind_some, Int.toNat_natCast, Bool.and_self, Bool.or_self, Bool.cond_self, reduceIte, inR_eq, big_eq, beq_self_eq_true, List.nil_append, List.append_nil, List.length_nil, List.length_append, F_impl_End_arm, i_goes, ho, e1]
    · have e1 : e.arm now false = e := by unfold Ed.arm; rw [ho]; simp [hd]
      simp (disch := omega) only [decide_true, decide_false, decide_eq_true, decide_eq_false, if_pos, if_neg, wr, cond_true, cond_false, Bool.not_true, Bool.not_false, Bool.and_true, Bool.true_and, Bool.and_false, Bool.false_and, Bool.or_true, Bool.true_or, Bool.or_false, Bool.false_or, Option.bind_some, Int.toNat_natCast, Bool.and_self, Bool.or_self, Bool.cond_self, reduceIte, inR_eq, big_eq, beq_self_eq_true, List.nil_append, List.append_nil, List.length_nil, List.length_append, F_impl_End_arm, i_goes, ho, e1]
  | false =>
    obtain ⟨hd, ht⟩ := hc ho
    have e1 : e.arm now false = e := by
      unfold Ed.arm
      rw [ho]
      cases e with
      | mk st addr n paddr pn base out ear closed ltold lheard plast due tries pulse =>
        simp only at hd ht
        subst hd
        by_cases h5 : st = 5
        · simp [h5]
        · have : tries = 0 := by omega
          subst this
          simp [h5]
    simp (disch := omega) only [decide_true, decide_false, decide_eq_true, decide_eq_false, if_pos, if_neg, wr, cond_true, cond_false, Bool.not_true, Bool.not_false, Bool.and_true, Bool.true_and, Bool.and_false, Bool.false_and, Bool.or_true, Bool.true_or, Bool.or_false, Bool.false_or, Option.bind_some, Int.toNat_natCast, Bool.and_self, Bool.or_self, Bool.cond_self, reduceIte, inR_eq, big_eq, beq_self_eq_true, List.nil_append, List.append_nil, List.length_nil, List.length_append, F_impl_End_arm, i_goes, ho, e1]
theorem Ed.tellB_opn (e : Ed) : e.tellB.1.opn = e.opn ∧ e.tellB.1.due = e.due ∧ e.tellB.1.tries = e.tries ∧ e.tellB.1.st = e.st ∧ e.tellB.1.pulse = e.pulse := by
  obtain ⟨n, h1, h2, h3⟩ := Ed.bytes_form 40 e []
  have h1 : e.tellB.1 = { e with out := { e.out with sent := n } } := h1
  rw [h1]
  exact ⟨rfl, rfl, rfl, rfl, rfl⟩
theorem Ed.put_opn (e : Ed) (data : List Int) : ((e.put data).opn = false → e.opn = false) ∧ (e.put data).due = e.due ∧ (e.put data).tries = e.tries ∧ (e.put data).st = e.st ∧ (e.put data).pulse = e.pulse := by
  unfold Ed.put
  split
  · refine ⟨fun h => ?_, rfl, rfl, rfl, rfl⟩
    cases ho : e.opn with
    | false => rfl
    | true =>
      have hst := Ed.st_of_opn ho
      unfold Ed.opn at h ho
      rcases hst with a | a | a
      · simp [a] at h
      · simp [a] at h
      · simp [a, Mo.write] at h ho
        rcases ho with b | b
        · exact absurd h.1.1 b
        · have := h.2 b.1; rw [b.2] at this; cases this
  · exact ⟨fun h => h, rfl, rfl, rfl, rfl⟩
theorem i_EndWrite {e : Ed} (h : e.Is) {data : List Int} {now : Int} (hd : data.length ≤ 100000) (hn : 0 ≤ now ∧ now ≤ 900000) :
    F_impl_EndWrite e.e data now = some (((e.write data now).e, e.putN data, (e.writeL data).map Sg.e, ()), ()) := by
  have hc := Ck.ok_bd h.pulse
  obtain ⟨p1, p2, _⟩ := h.put data
  have hb := i_tellBytes (e.put data) p1.out p1.ear
  obtain ⟨o1, o2, o3, o4, o5⟩ := Ed.tellB_opn (e.put data)
  obtain ⟨q1, q2, q3, q4, q5⟩ := Ed.put_opn e data
  have har := i_arm (e.put data).tellB.1 now (by omega) (by rw [o5, q5]; omega) (by
    rw [o1, o2, o3, o4, q2, q3, q4]
    intro z
    exact h.calm (q1 z))
  have hll : ((e.put data).tellB.2.map Sg.e).length ≤ 1000000 := by
    have := Ed.bytes_cnt 40 (e.put data) []
    simp only [List.length_map, Ed.tellB]
    simp at this
    omega
  have hcl := i_cloneS _ hll
  have hw := i_MouthWrite e.out data h.out hd
  cases hq : (!e.closed && decide (e.st ≠ 5)) with
  | true =>
    have e1 : e.put data = { e with out := e.out.write data } := by unfold Ed.put; rw [hq]; rfl
    have e2 : e.putN data = e.out.writeN data := by unfold Ed.putN; rw [hq]; rfl
    have hq' : e.closed = false ∧ ¬ e.st = 5 := by simpa using hq
    obtain ⟨hcl', h5⟩ := hq'
    rw [e1] at hb har hcl
    simp only [Ed.e, hcl'] at hb har hcl
    by_cases h4 : e.st = 4
    · simp (disch := omega) only [decide_true, decide_false, decide_eq_true, decide_eq_false, if_pos, if_neg, wr, cond_true, cond_false, Bool.not_true, Bool.not_false, Bool.and_true, Bool.true_and, Bool.and_false, Bool.false_and, Bool.or_true, Bool.true_or, Bool.or_false, Bool.false_or, Option.bind_some, Int.toNat_natCast, Bool.and_self, Bool.or_self, Bool.cond_self, reduceIte, inR_eq, big_eq, beq_self_eq_true, List.nil_append, List.append_nil, List.length_nil, List.length_append, F_impl_EndWrite, i_asked h hn, i_End_copy e (Is.small h).1, hcl', hw, hb, har, hcl, Ed.write, Ed.writeL, e1, e2]
    · simp (disch := omega) only [decide_true, decide_false, decide_eq_true, decide_eq_false, if_pos, if_neg, wr, cond_true, cond_false, Bool.not_true, Bool.not_false, Bool.and_true, Bool.true_and, Bool.and_false, Bool.false_and, Bool.or_true, Bool.true_or, Bool.or_false, Bool.false_or, Option.bind_some, Int.toNat_natCast, Bool.and_self, Bool.or_self, Bool.cond_self, reduceIte, inR_eq, big_eq, beq_self_eq_true, List.nil_append, List.append_nil, List.length_nil, List.length_append, F_impl_EndWrite, i_asked h hn, i_End_copy e (Is.small h).1, hcl', hw, Ed.write, Ed.writeL, e1, e2, List.map_nil]
  | false =>
    have e1 : e.put data = e := by unfold Ed.put; rw [hq]; rfl
    have e2 : e.putN data = 0 := by unfold Ed.putN; rw [hq]; rfl
    have hq' : e.closed = true ∨ e.st = 5 := by
      by_cases h5 : e.st = 5
      · exact .inr h5
      · left; simpa [h5] using hq
    rw [e1] at hb har hcl
    by_cases h4 : e.st = 4
    · have hcl' : e.closed = true := hq'.resolve_right (by omega)
      simp (disch := omega) only [decide_true, decide_false, decide_eq_true, decide_eq_false, if_pos, if_neg, wr, cond_true, cond_false, Bool.not_true, Bool.not_false, Bool.and_true, Bool.true_and, Bool.and_false, Bool.false_and, Bool.or_true, Bool.true_or, Bool.or_false, Bool.false_or, Option.bind_some, Int.toNat_natCast, Bool.and_self, Bool.or_self, Bool.cond_self, reduceIte, inR_eq, big_eq, beq_self_eq_true, List.nil_append, List.append_nil, List.length_nil, List.length_append, F_impl_EndWrite, i_asked h hn, i_End_copy e (Is.small h).1, hcl', hb, har, hcl, Ed.write, Ed.writeL, e1, e2]
    · rcases hq' with hcl' | h5
      · simp (disch := omega) only [decide_true, decide_false, decide_eq_true, decide_eq_false, if_pos, if_neg, wr, cond_true, cond_false, Bool.not_true, Bool.not_false, Bool.and_true, Bool.true_and, Bool.and_false, Bool.false_and, Bool.or_true, Bool.true_or, Bool.or_false, Bool.false_or, Option.bind_some, Int.toNat_natCast, Bool.and_self, Bool.or_self, Bool.cond_self, reduceIte, inR_eq, big_eq, beq_self_eq_true, List.nil_append, List.append_nil, List.length_nil, List.length_append, F_impl_EndWrite, i_asked h hn, i_End_copy e (Is.small h).1, hcl', Ed.write, Ed.writeL, e1, e2, List.map_nil]
      · simp (disch := omega) only [decide_true, decide_false, decide_eq_true, decide_eq_false, if_pos, if_neg, wr, cond_true, cond_false, Bool.not_true, Bool.not_false, Bool.and_true, Bool.true_and, Bool.and_false, Bool.false_and, Bool.or_true, Bool.true_or, Bool.or_false, Bool.false_or, Option.bind_some, Int.toNat_natCast, Bool.and_self, Bool.or_self, Bool.cond_self, reduceIte, inR_eq, big_eq, beq_self_eq_true, List.nil_append, List.append_nil, List.length_nil, List.length_append, F_impl_EndWrite, i_asked h hn, i_End_copy e (Is.small h).1, Bool.cond_false_right, Ed.write, Ed.writeL, e1, e2, List.map_nil]
end Go.VI.EwcVi
set_option linter.unusedVariables false
set_option linter.unusedSimpArgs false
namespace Go.VI.EwcVi
open Go Go.VI Go.VI.Ns

theorem base_bd {a b c : Int} (h : (0 ≤ a ∧ a ≤ 65535) ∧ (0 ≤ b ∧ b ≤ 65535) ∧ (0 ≤ c ∧ c ≤ 65535)) {v : Int} (hv : 0 ≤ v ∧ v < 3) : 0 ≤ rdI (0 : Int) [a, b, c] v.toNat ∧ rdI (0 : Int) [a, b, c] v.toNat ≤ 65535 := by
  have : v = 0 ∨ v = 1 ∨ v = 2 := by omega
  rcases this with rfl | rfl | rfl
  · exact h.1
  · exact h.2.1
  · exact h.2.2
theorem Ed.new_is {addr port base room : Int} (ha : 0 ≤ addr ∧ addr ≤ 65535) (hp : 1 ≤ port ∧ port ≤ 255) (hb : 0 ≤ base ∧ base ≤ 65535) (hr : 1 ≤ room ∧ room ≤ 32) : (Ed.new addr port base room).Is := by
  refine ⟨by simp [Ed.new], ha, by simp [Ed.new], by simpa [Ed.new] using hp, by simp [Ed.new], hb, ?_, by simp only [Ed.new]; omega, ?_, by simp [Ed.new, Ck.ok, inn], by simp [Ed.new], by simp [Ed.new], by simp [Ed.new], by simp [Ed.new], by simp [Ed.new], by simp [Ed.new], by simp [Ed.new, Ed.opn], by simp [Ed.new]⟩
  · simp only [Ed.new, Mo.ok, Bool.and_eq_true, inn_iff, decide_eq_true_eq, List.length_nil, earlyOk]
    exact ⟨⟨⟨⟨⟨by omega, by first | omega | rfl⟩, by first | omega | exact ⟨by omega, by decide⟩⟩, by omega⟩, by first | omega | rfl⟩, trivial⟩
  · simp only [Ed.new, Ea.ok, Bool.and_eq_true, inn_iff, decide_eq_true_eq, List.length_nil, farOk]
    exact ⟨⟨⟨by omega, by omega⟩, by first | omega | exact decide_eq_true (by omega)⟩, trivial⟩
theorem s_l20Ends {r : List Int × Int} {m : Int} (h : RdOk r m) (hm : m ≤ 100000) : EndsOk (F_spec_l20Ends r) (m + 4000) 3000 := by
  obtain ⟨v1, r1, a1, a2, a3, a4⟩ := s_pick (n := 3) h (by omega) (by omega)
  obtain ⟨v2, r2, b1, b2, b3, b4⟩ := s_pick (n := 16) a4 (by omega) (by omega)
  obtain ⟨v3, r3, c1, c2, c3, c4⟩ := s_pick (n := 3) b4 (by omega) (by omega)
  obtain ⟨v4, r4, d1, d2, d3, d4⟩ := s_pick (n := 16) c4 (by omega) (by omega)
  obtain ⟨v5, r5, e1, e2, e3, e4⟩ := s_pick (n := 26) d4 (by omega) (by omega)
  have hb1 := base_bd (a := 5) (b := 65530) (c := 32760) (by omega) (v := v1) (by omega)
  have hb2 := base_bd (a := 100) (b := 65534) (c := 0) (by omega) (v := v3) (by omega)
  have hl1 : ([(5 : Int), 65530, 32760] : List Int).length = 3 := rfl
  have hl2 : ([(100 : Int), 65534, 0] : List Int).length = 3 := rfl
  generalize hB1 : rdI (0 : Int) [5, 65530, 32760] v1.toNat = base1 at hb1
  generalize hB2 : rdI (0 : Int) [100, 65534, 0] v3.toNat = base2 at hb2
  have n1 := s_EndNew (addr := 1) (port := 7) (base := base1) (room := 4 + v2) (by omega) (by omega) hb1 (by omega)
  have n2 := s_EndNew (addr := 2) (port := 9) (base := base2) (room := 4 + v4) (by omega) (by omega) hb2 (by omega)
  have i1 := Ed.new_is (addr := 1) (port := 7) (base := base1) (room := 4 + v2) (by omega) (by omega) hb1 (by omega)
  have i2 := Ed.new_is (addr := 2) (port := 9) (base := base2) (room := 4 + v4) (by omega) (by omega) hb2 (by omega)
  have hli := s_EndListen i2
  have hco := s_EndConnect i1 (addr := 2) (port := 9) (now := 0) (by omega) (by omega) (by omega)
  rw [if_pos (show (Ed.new 1 7 base1 (4 + v2)).st = 0 from rfl)] at hco
  have ia := i1.connect (show (Ed.new 1 7 base1 (4 + v2)).st = 0 from rfl) (addr := 2) (port := 9) (now := 0) (by omega) (by omega) (by omega)
  have ib := i2.listen
  have hf := Ed.connect_fst i1 (addr := 2) (port := 9) (now := 0) (by omega)
  generalize (Ed.new 1 7 base1 (4 + v2)).connect 2 9 0 = a at *
  generalize (Ed.new 2 9 base2 (4 + v4)).listen = b at *
  obtain ⟨k, hk⟩ := Int.eq_ofNat_of_zero_le (show 0 ≤ 3 + v5 by omega)
  have hgo := s_l20Ends_l (0, 0, 0, 0, 0, 0, (0, [], 0, 0, []), (0, 0, [], []), false, false, false, 0, 0, 0, 0, 0, 0) (0, 0, 0, 0, 0, 0, (0, [], 0, 0, []), (0, 0, [], []), false, false, false, 0, 0, 0, 0, 0, 0) (m + 4000) 3000 (by omega) (by omega) k fuel (m + 1 + 1 + 1 + 1 + 1) a b [] [a.fst] r5 ia ib okL_nil (okL_one hf) (by simp; omega) (by simp; omega) e4 (by omega) (by omega) (by rw [fuel_eq]; omega)
  simp only [List.map_nil, List.map_cons] at hgo
  rw [← hk] at hgo
  simp (disch := omega) only [decide_true, decide_false, decide_eq_true, decide_eq_false, if_pos, if_neg, wr, cond_true, cond_false, Bool.not_true, Bool.not_false, Bool.and_true, Bool.true_and, Bool.and_false, Bool.false_and, Bool.or_true, Bool.true_or, Bool.or_false, Bool.false_or, Option.bind_some, Int.toNat_natCast, Bool.and_self, Bool.or_self, Bool.cond_self, reduceIte, inR_eq, big_eq, beq_self_eq_true, List.nil_append, List.append_nil, List.length_nil, List.length_append, F_spec_l20Ends, a1, b1, c1, d1, e1, hl1, hl2, hB1, hB2, n1, n2, hli, hco, List.length_cons, Nat.zero_add]
  exact hgo
set_option maxHeartbeats 1000000 in
theorem s_l20End {r : List Int × Int} {m n : Int} (h : RdOk r m) (hm : m ≤ 100000) (hn : 1 ≤ n ∧ n ≤ 1000) : ∃ e r', F_spec_l20End r n = some ((Ed.e e, ()), (r', ())) ∧ e.ear.ok = true ∧ RdOk r' (m + 5000) := by
  obtain ⟨a, b, la, lb, r1, h1, ia, ib, _, _, _, _, h2⟩ := s_l20Ends h hm
  obtain ⟨v2, r2, b1, b2, b3, b4⟩ := s_pick (n := 2) h2 (by omega) (by omega)
  obtain ⟨o, r3, c1, c4⟩ := s_odd (n := n) b4 (by omega) (by omega)
  obtain ⟨v4, r4, d1, d2, d3, d4⟩ := s_pick (n := 6) c4 (by omega) (by omega)
  obtain ⟨v5, r5, e1, e2, e3, e4⟩ := s_pick (n := 8) d4 (by omega) (by omega)
  obtain ⟨v6, r6, f1, f2, f3, f4⟩ := s_pick (n := 3) d4 (by omega) (by omega)
  have key : ∀ x : Ed, x.Is → ∃ e : Ed, ∃ r', (bif o then
      some ((if v4 = 0 then ({ x with st := v5 - 1 } : Ed).e else if v4 = 1 then ({ x with plast := x.ear.next - 1 + v6 } : Ed).e else if v4 = 2 then ({ x with ltold := !x.ltold } : Ed).e else if v4 = 3 then ({ x with out := { x.out with heard := x.base } } : Ed).e else if v4 = 4 then ({ x with tries := 9 } : Ed).e else ({ x with n := 0 } : Ed).e, ()), ((if v4 = 0 then r5 else if v4 = 1 then r6 else r4 : Ts_l20Rd), ())) else some ((x.e, ()), (r3, ()))) = some ((e.e, ()), (r', ())) ∧ e.ear.ok = true ∧ RdOk r' (m + 5000) := by
    intro x hx
    cases o with
    | false => exact ⟨x, r3, rfl, hx.ear, c4.le (by omega)⟩
    | true =>
      by_cases g0 : v4 = 0
      · exact ⟨{ x with st := v5 - 1 }, r5, by simp only [cond_true, if_pos g0], hx.ear, e4.le (by omega)⟩
      · by_cases g1 : v4 = 1
        · exact ⟨{ x with plast := x.ear.next - 1 + v6 }, r6, by simp only [cond_true, if_neg g0, if_pos g1], hx.ear, f4.le (by omega)⟩
        · refine ⟨if v4 = 2 then { x with ltold := !x.ltold } else if v4 = 3 then { x with out := { x.out with heard := x.base } } else if v4 = 4 then { x with tries := 9 } else { x with n := 0 }, r4, ?_, ?_, d4.le (by omega)⟩
          · simp only [cond_true, if_neg g0, if_neg g1]
            by_cases g2 : v4 = 2
            · simp only [if_pos g2]
            · by_cases g3 : v4 = 3
              · simp only [if_neg g2, if_pos g3]
              · by_cases g4 : v4 = 4
                · simp only [if_neg g2, if_neg g3, if_pos g4]
                · simp only [if_neg g2, if_neg g3, if_neg g4]
          · split
            · exact hx.ear
            · split
              · exact hx.ear
              · split <;> exact hx.ear
  by_cases hv : v2 = 0
  · obtain ⟨k1, k2, k3, k4, k5, k6, k7⟩ := Ea.ok_bd ib.ear
    obtain ⟨e, r', q1, q2, q3⟩ := key b ib
    refine ⟨e, r', ?_, q2, q3⟩
    rw [← q1]
    cases o with
    | false => simp (disch := omega) only [decide_true, decide_false, decide_eq_true, decide_eq_false, if_pos, if_neg, wr, cond_true, cond_false, Bool.not_true, Bool.not_false, Bool.and_true, Bool.true_and, Bool.and_false, Bool.false_and, Bool.or_true, Bool.true_or, Bool.or_false, Bool.false_or, Option.bind_some, Int.toNat_natCast, Bool.and_self, Bool.or_self, Bool.cond_self, reduceIte, inR_eq, big_eq, beq_self_eq_true, List.nil_append, List.append_nil, List.length_nil, List.length_append, F_spec_l20End, h1, b1, c1]
    | true =>
      by_cases g0 : v4 = 0
      · simp (disch := omega) only [decide_true, decide_false, decide_eq_true, decide_eq_false, if_pos, if_neg, wr, cond_true, cond_false, Bool.not_true, Bool.not_false, Bool.and_true, Bool.true_and, Bool.and_false, Bool.false_and, Bool.or_true, Bool.true_or, Bool.or_false, Bool.false_or, Option.bind_some, Int.toNat_natCast, Bool.and_self, Bool.or_self, Bool.cond_self, reduceIte, inR_eq, big_eq, beq_self_eq_true, List.nil_append, List.append_nil, List.length_nil, List.length_append, F_spec_l20End, h1, b1, c1, d1, e1]
      by_cases g1 : v4 = 1
      · simp (disch := omega) only [decide_true, decide_false, decide_eq_true, decide_eq_false, if_pos, if_neg, wr, cond_true, cond_false, Bool.not_true, Bool.not_false, Bool.and_true, Bool.true_and, Bool.and_false, Bool.false_and, Bool.or_true, Bool.true_or, Bool.or_false, Bool.false_or, Option.bind_some, Int.toNat_natCast, Bool.and_self, Bool.or_self, Bool.cond_self, reduceIte, inR_eq, big_eq, beq_self_eq_true, List.nil_append, List.append_nil, List.length_nil, List.length_append, F_spec_l20End, h1, b1, c1, d1, f1]
      by_cases g2 : v4 = 2
      · simp (disch := omega) only [decide_true, decide_false, decide_eq_true, decide_eq_false, if_pos, if_neg, wr, cond_true, cond_false, Bool.not_true, Bool.not_false, Bool.and_true, Bool.true_and, Bool.and_false, Bool.false_and, Bool.or_true, Bool.true_or, Bool.or_false, Bool.false_or, Option.bind_some, Int.toNat_natCast, Bool.and_self, Bool.or_self, Bool.cond_self, reduceIte, inR_eq, big_eq, beq_self_eq_true, List.nil_append, List.append_nil, List.length_nil, List.length_append, F_spec_l20End, h1, b1, c1, d1]
      by_cases g3 : v4 = 3
      · simp (disch := omega) only [decide_true, decide_false, decide_eq_true, decide_eq_false, if_pos, if_neg, wr, cond_true, cond_false, Bool.not_true, Bool.not_false, Bool.and_true, Bool.true_and, Bool.and_false, Bool.false_and, Bool.or_true, Bool.true_or, Bool.or_false, Bool.false_or, Option.bind_some, Int.toNat_natCast, Bool.and_self, Bool.or_self, Bool.cond_self, reduceIte, inR_eq, big_eq, beq_self_eq_true, List.nil_append, List.append_nil, List.length_nil, List.length_append, F_spec_l20End, h1, b1, c1, d1]
      by_cases g4 : v4 = 4
      · simp (disch := omega) only [decide_true, decide_false, decide_eq_true, decide_eq_false, if_pos, if_neg, wr, cond_true, cond_false, Bool.not_true, Bool.not_false, Bool.and_true, Bool.true_and, Bool.and_false, Bool.false_and, Bool.or_true, Bool.true_or, Bool.or_false, Bool.false_or, Option.bind_some, Int.toNat_natCast, Bool.and_self, Bool.or_self, Bool.cond_self, reduceIte, inR_eq, big_eq, beq_self_eq_true, List.nil_append, List.append_nil, List.length_nil, List.length_append, F_spec_l20End, h1, b1, c1, d1]
      · simp (disch := omega) only [decide_true, decide_false, decide_eq_true, decide_eq_false, if_pos, if_neg, wr, cond_true, cond_false, Bool.not_true, Bool.not_false, Bool.and_true, Bool.true_and, Bool.and_false, Bool.false_and, Bool.or_true, Bool.true_or, Bool.or_false, Bool.false_or, Option.bind_some, Int.toNat_natCast, Bool.and_self, Bool.or_self, Bool.cond_self, reduceIte, inR_eq, big_eq, beq_self_eq_true, List.nil_append, List.append_nil, List.length_nil, List.length_append, F_spec_l20End, h1, b1, c1, d1]
  · obtain ⟨k1, k2, k3, k4, k5, k6, k7⟩ := Ea.ok_bd ia.ear
    obtain ⟨e, r', q1, q2, q3⟩ := key a ia
    refine ⟨e, r', ?_, q2, q3⟩
    rw [← q1]
    cases o with
    | false => simp (disch := omega) only [decide_true, decide_false, decide_eq_true, decide_eq_false, if_pos, if_neg, wr, cond_true, cond_false, Bool.not_true, Bool.not_false, Bool.and_true, Bool.true_and, Bool.and_false, Bool.false_and, Bool.or_true, Bool.true_or, Bool.or_false, Bool.false_or, Option.bind_some, Int.toNat_natCast, Bool.and_self, Bool.or_self, Bool.cond_self, reduceIte, inR_eq, big_eq, beq_self_eq_true, List.nil_append, List.append_nil, List.length_nil, List.length_append, F_spec_l20End, h1, b1, c1]
    | true =>
      by_cases g0 : v4 = 0
      · simp (disch := omega) only [decide_true, decide_false, decide_eq_true, decide_eq_false, if_pos, if_neg, wr, cond_true, cond_false, Bool.not_true, Bool.not_false, Bool.and_true, Bool.true_and, Bool.and_false, Bool.false_and, Bool.or_true, Bool.true_or, Bool.or_false, Bool.false_or, Option.bind_some, Int.toNat_natCast, Bool.and_self, Bool.or_self, Bool.cond_self, reduceIte, inR_eq, big_eq, beq_self_eq_true, List.nil_append, List.append_nil, List.length_nil, List.length_append, F_spec_l20End, h1, b1, c1, d1, e1]
      by_cases g1 : v4 = 1
      · simp (disch := omega) only [decide_true, decide_false, decide_eq_true, decide_eq_false, if_pos, if_neg, wr, cond_true, cond_false, Bool.not_true, Bool.not_false, Bool.and_true, Bool.true_and, Bool.and_false, Bool.false_and, Bool.or_true, Bool.true_or, Bool.or_false, Bool.false_or, Option.bind_some, Int.toNat_natCast, Bool.and_self, Bool.or_self, Bool.cond_self, reduceIte, inR_eq, big_eq, beq_self_eq_true, List.nil_append, List.append_nil, List.length_nil, List.length_append, F_spec_l20End, h1, b1, c1, d1, f1]
      by_cases g2 : v4 = 2
      · simp (disch := omega) only [decide_true, decide_false, decide_eq_true, decide_eq_false, if_pos, if_neg, wr, cond_true, cond_false, Bool.not_true, Bool.not_false, Bool.and_true, Bool.true_and, Bool.and_false, Bool.false_and, Bool.or_true, Bool.true_or, Bool.or_false, Bool.false_or, Option.bind_some, Int.toNat_natCast, Bool.and_self, Bool.or_self, Bool.cond_self, reduceIte, inR_eq, big_eq, beq_self_eq_true, List.nil_append, List.append_nil, List.length_nil, List.length_append, F_spec_l20End, h1, b1, c1, d1]
      by_cases g3 : v4 = 3
      · simp (disch := omega) only [decide_true, decide_false, decide_eq_true, decide_eq_false, if_pos, if_neg, wr, cond_true, cond_false, Bool.not_true, Bool.not_false, Bool.and_true, Bool.true_and, Bool.and_false, Bool.false_and, Bool.or_true, Bool.true_or, Bool.or_false, Bool.false_or, Option.bind_some, Int.toNat_natCast, Bool.and_self, Bool.or_self, Bool.cond_self, reduceIte, inR_eq, big_eq, beq_self_eq_true, List.nil_append, List.append_nil, List.length_nil, List.length_append, F_spec_l20End, h1, b1, c1, d1]
      by_cases g4 : v4 = 4
      · simp (disch := omega) only [decide_true, decide_false, decide_eq_true, decide_eq_false, if_pos, if_neg, wr, cond_true, cond_false, Bool.not_true, Bool.not_false, Bool.and_true, Bool.true_and, Bool.and_false, Bool.false_and, Bool.or_true, Bool.true_or, Bool.or_false, Bool.false_or, Option.bind_some, Int.toNat_natCast, Bool.and_self, Bool.or_self, Bool.cond_self, reduceIte, inR_eq, big_eq, beq_self_eq_true, List.nil_append, List.append_nil, List.length_nil, List.length_append, F_spec_l20End, h1, b1, c1, d1]
      · simp (disch := omega) only [decide_true, decide_false, decide_eq_true, decide_eq_false, if_pos, if_neg, wr, cond_true, cond_false, Bool.not_true, Bool.not_false, Bool.and_true, Bool.true_and, Bool.and_false, Bool.false_and, Bool.or_true, Bool.true_or, Bool.or_false, Bool.false_or, Option.bind_some, Int.toNat_natCast, Bool.and_self, Bool.or_self, Bool.cond_self, reduceIte, inR_eq, big_eq, beq_self_eq_true, List.nil_append, List.append_nil, List.length_nil, List.length_append, F_spec_l20End, h1, b1, c1, d1]
theorem s_l20Open (l : List Int) (hb : ∀ x ∈ l, 0 ≤ x ∧ x ≤ 255) (hl : l.length ≤ 1000000000000) : ∃ r, F_spec_l20Open l = some ((r, ()), ()) ∧ RdOk r 0 := by
  by_cases h : (2000 : Int) < l.length
  · refine ⟨(l.take 2000, 0), ?_, fun x hx => hb x (List.mem_of_mem_take hx), by simp; omega, by simp, by simp⟩
    simp (disch := omega) only [decide_true, decide_false, decide_eq_true, decide_eq_false, if_pos, if_neg, wr, cond_true, cond_false, Bool.not_true, Bool.not_false, Bool.and_true, Bool.true_and, Bool.and_false, Bool.false_and, Bool.or_true, Bool.true_or, Bool.or_false, Bool.false_or, Option.bind_some, Int.toNat_natCast, Bool.and_self, Bool.or_self, Bool.cond_self, reduceIte, inR_eq, big_eq, beq_self_eq_true, List.nil_append, List.append_nil, List.length_nil, List.length_append, F_spec_l20Open, Int.reduceToNat]
  · refine ⟨(l, 0), ?_, hb, by simp only; omega, by simp, by simp⟩
    simp (disch := omega) only [decide_true, decide_false, decide_eq_true, decide_eq_false, if_pos, if_neg, wr, cond_true, cond_false, Bool.not_true, Bool.not_false, Bool.and_true, Bool.true_and, Bool.and_false, Bool.false_and, Bool.or_true, Bool.true_or, Bool.or_false, Bool.false_or, Option.bind_some, Int.toNat_natCast, Bool.and_self, Bool.or_self, Bool.cond_self, reduceIte, inR_eq, big_eq, beq_self_eq_true, List.nil_append, List.append_nil, List.length_nil, List.length_append, F_spec_l20Open]
/-! ### ready -/
def Ed.over (e : Ed) : Bool := decide (e.plast = e.ear.next) && decide ((e.ear.got.length : Int) = 0)
def Ed.rdR (e : Ed) : Bool := decide (0 < (e.ear.got.length : Int)) || Ed.over e || decide (e.st = 5)
def Ed.rdT (e : Ed) : Bool := decide (e.st = 4) && !e.closed && decide ((e.out.keep.length : Int) < 32)
def Ed.rdG (e : Ed) : Bool := decide (e.st = 5) || (Ed.over e && e.lheard)
def Ed.ready (e : Ed) : Int := (if Ed.rdR e then 1 else 0) + (if Ed.rdT e then 2 else 0) + (if Ed.rdG e then 4 else 0)
theorem l_alive : F_laws_alive = some ((true, ()), ()) := by
  obtain ⟨f, hf⟩ : ∃ f, fuel = f + 2 := ⟨fuel - 2, by rw [fuel_eq]⟩
  have h1 : F_impl_BytesOf 5 1 = some (([5], ()), ()) := by
    unfold F_impl_BytesOf F_impl_bytesOf
    rw [hf]
    rfl
  have h2 : F_impl_BytesOf 256 1 = some (([], ()), ()) := rfl
  unfold F_laws_alive
  rw [h1]
  simp only [Option.bind_some]
  rw [h2]
  rfl
theorem ready_bits (R T G : Bool) : decide (((if R then (1 : Int) else 0) + (if T then 2 else 0) + (if G then 4 else 0)).tmod 2 = 1) = R ∧ decide ((IntKind.i64.wrap (((if R then (1 : Int) else 0) + (if T then 2 else 0) + (if G then 4 else 0)).tdiv 2)).tmod 2 = 1) = T := by
  cases R <;> cases T <;> cases G <;> exact ⟨rfl, rfl⟩
end Go.VI.EwcVi
set_option linter.unusedVariables false
set_option linter.unusedSimpArgs false
namespace Go.VI.EwcVi
open Go Go.VI Go.VI.Ns

theorem same_bytes (a : List Int) : F_laws_sameBytes a a = true := by
  simp only [F_laws_sameBytes, strEq, beq_self_eq_true]
theorem same_ranges_l (a : List (Int × Int)) : ∀ (m n : Nat) (k : Int), k + m = a.length → 0 ≤ k → m < n → a.length ≤ 1000000 → L_laws_sameRanges_4 n (a, a, k, ()) = some ((true, ()), ())
  | m, 0, k, h, h0, hn, hl => by omega
  | 0, n + 1, k, h, h0, hn, hl => by simp (disch := omega) only [decide_true, decide_false, decide_eq_true, decide_eq_false, if_pos, if_neg, wr, cond_true, cond_false, Bool.not_true, Bool.not_false, Bool.and_true, Bool.true_and, Bool.and_false, Bool.false_and, Bool.or_true, Bool.true_or, Bool.or_false, Bool.false_or, Option.bind_some, Int.toNat_natCast, Bool.and_self, Bool.or_self, Bool.cond_self, reduceIte, inR_eq, big_eq, beq_self_eq_true, List.nil_append, List.append_nil, List.length_nil, List.length_append, L_laws_sameRanges_4]
  | m + 1, n + 1, k, h, h0, hn, hl => by
    have ih := same_ranges_l a m n (k + 1) (by omega) (by omega) (by omega) hl
    simp (disch := omega) only [decide_true, decide_false, decide_eq_true, decide_eq_false, if_pos, if_neg, wr, cond_true, cond_false, Bool.not_true, Bool.not_false, Bool.and_true, Bool.true_and, Bool.and_false, Bool.false_and, Bool.or_true, Bool.true_or, Bool.or_false, Bool.false_or, Option.bind_some, Int.toNat_natCast, Bool.and_self, Bool.or_self, Bool.cond_self, reduceIte, inR_eq, big_eq, beq_self_eq_true, List.nil_append, List.append_nil, List.length_nil, List.length_append, L_laws_sameRanges_4, ih]
theorem same_ranges (a : List (Int × Int)) (h : a.length ≤ 1000000) : F_laws_sameRanges a a = some ((true, ()), ()) := by
  have := same_ranges_l a a.length fuel 0 (by omega) (by omega) (by rw [fuel_eq]; omega) h
  simp (disch := omega) only [decide_true, decide_false, decide_eq_true, decide_eq_false, if_pos, if_neg, wr, cond_true, cond_false, Bool.not_true, Bool.not_false, Bool.and_true, Bool.true_and, Bool.and_false, Bool.false_and, Bool.or_true, Bool.true_or, Bool.or_false, Bool.false_or, Option.bind_some, Int.toNat_natCast, Bool.and_self, Bool.or_self, Bool.cond_self, reduceIte, inR_eq, big_eq, beq_self_eq_true, List.nil_append, List.append_nil, List.length_nil, List.length_append, F_laws_sameRanges, this]
theorem same_mouth (m : TMouth) (h : m.2.2.2.2.length ≤ 1000000) : F_laws_sameMouth m m = some ((true, ()), ()) := by
  simp (disch := omega) only [decide_true, decide_false, decide_eq_true, decide_eq_false, if_pos, if_neg, wr, cond_true, cond_false, Bool.not_true, Bool.not_false, Bool.and_true, Bool.true_and, Bool.and_false, Bool.false_and, Bool.or_true, Bool.true_or, Bool.or_false, Bool.false_or, Option.bind_some, Int.toNat_natCast, Bool.and_self, Bool.or_self, Bool.cond_self, reduceIte, inR_eq, big_eq, beq_self_eq_true, List.nil_append, List.append_nil, List.length_nil, List.length_append, F_laws_sameMouth, same_bytes, same_ranges _ h]
theorem same_ear_l (a : TEar) : ∀ (m n : Nat) (k : Int), k + m = a.2.2.2.length → 0 ≤ k → m < n → a.2.2.2.length ≤ 1000000 → L_laws_sameEar_4 n ((), (), k, a, a, ()) = some ((true, ()), ())
  | m, 0, k, h, h0, hn, hl => by omega
  | 0, n + 1, k, h, h0, hn, hl => by simp (disch := omega) only [decide_true, decide_false, decide_eq_true, decide_eq_false, if_pos, if_neg, wr, cond_true, cond_false, Bool.not_true, Bool.not_false, Bool.and_true, Bool.true_and, Bool.and_false, Bool.false_and, Bool.or_true, Bool.true_or, Bool.or_false, Bool.false_or, Option.bind_some, Int.toNat_natCast, Bool.and_self, Bool.or_self, Bool.cond_self, reduceIte, inR_eq, big_eq, beq_self_eq_true, List.nil_append, List.append_nil, List.length_nil, List.length_append, L_laws_sameEar_4]
  | m + 1, n + 1, k, h, h0, hn, hl => by
    have ih := same_ear_l a m n (k + 1) (by omega) (by omega) (by omega) hl
    simp (disch := omega) only [decide_true, decide_false, decide_eq_true, decide_eq_false, if_pos, if_neg, wr, cond_true, cond_false, Bool.not_true, Bool.not_false, Bool.and_true, Bool.true_and, Bool.and_false, Bool.false_and, Bool.or_true, Bool.true_or, Bool.or_false, Bool.false_or, Option.bind_some, Int.toNat_natCast, Bool.and_self, Bool.or_self, Bool.cond_self, reduceIte, inR_eq, big_eq, beq_self_eq_true, List.nil_append, List.append_nil, List.length_nil, List.length_append, L_laws_sameEar_4, ih]
theorem same_ear (a : TEar) (h : a.2.2.2.length ≤ 1000000) : F_laws_sameEar a a = some ((true, ()), ()) := by
  have := same_ear_l a a.2.2.2.length fuel 0 (by omega) (by omega) (by rw [fuel_eq]; omega) h
  simp (disch := omega) only [decide_true, decide_false, decide_eq_true, decide_eq_false, if_pos, if_neg, wr, cond_true, cond_false, Bool.not_true, Bool.not_false, Bool.and_true, Bool.true_and, Bool.and_false, Bool.false_and, Bool.or_true, Bool.true_or, Bool.or_false, Bool.false_or, Option.bind_some, Int.toNat_natCast, Bool.and_self, Bool.or_self, Bool.cond_self, reduceIte, inR_eq, big_eq, beq_self_eq_true, List.nil_append, List.append_nil, List.length_nil, List.length_append, F_laws_sameEar, same_bytes, this]
theorem same_end (e : TEnd) (h1 : e.2.2.2.2.2.2.1.2.2.2.2.length ≤ 1000000) (h2 : e.2.2.2.2.2.2.2.1.2.2.2.length ≤ 1000000) : F_laws_sameEnd e e = some ((true, ()), ()) := by
  simp (disch := omega) only [decide_true, decide_false, decide_eq_true, decide_eq_false, if_pos, if_neg, wr, cond_true, cond_false, Bool.not_true, Bool.not_false, Bool.and_true, Bool.true_and, Bool.and_false, Bool.false_and, Bool.or_true, Bool.true_or, Bool.or_false, Bool.false_or, Option.bind_some, Int.toNat_natCast, Bool.and_self, Bool.or_self, Bool.cond_self, reduceIte, inR_eq, big_eq, beq_self_eq_true, List.nil_append, List.append_nil, List.length_nil, List.length_append, F_laws_sameEnd, same_mouth _ h1, same_ear _ h2]
theorem same_end_is {e : Ed} (h : e.Is) : F_laws_sameEnd e.e e.e = some ((true, ()), ()) := by
  obtain ⟨⟨h1, h2, h3, h4⟩, _⟩ := Is.small h
  exact same_end e.e h2 h4
theorem same_segment (s : Sg) (h : s.ranges.length ≤ 1000000) : F_laws_sameSegment s.e s.e = some ((true, ()), ()) := by
  simp (disch := omega) only [decide_true, decide_false, decide_eq_true, decide_eq_false, if_pos, if_neg, wr, cond_true, cond_false, Bool.not_true, Bool.not_false, Bool.and_true, Bool.true_and, Bool.and_false, Bool.false_and, Bool.or_true, Bool.true_or, Bool.or_false, Bool.false_or, Option.bind_some, Int.toNat_natCast, Bool.and_self, Bool.or_self, Bool.cond_self, reduceIte, inR_eq, big_eq, beq_self_eq_true, List.nil_append, List.append_nil, List.length_nil, List.length_append, F_laws_sameSegment, same_ranges _ h, same_bytes]
theorem same_segments_l : ∀ (suf pre : List Sg) (n : Nat) (k : Int), (∀ s ∈ suf, s.ranges.length ≤ 1000000) → k = pre.length → suf.length < n → pre.length + suf.length ≤ 1000000 → L_laws_sameSegments_4 n ((pre ++ suf).map Sg.e, (pre ++ suf).map Sg.e, k, ()) = some ((true, ()), ())
  | [], pre, 0, k, h, hk, hn, hl => by simp at hn
  | [], pre, n + 1, k, h, hk, hn, hl => by
    simp (disch := omega) only [decide_true, decide_false, decide_eq_true, decide_eq_false, if_pos, if_neg, wr, cond_true, cond_false, Bool.not_true, Bool.not_false, Bool.and_true, Bool.true_and, Bool.and_false, Bool.false_and, Bool.or_true, Bool.true_or, Bool.or_false, Bool.false_or, Option.bind_some, Int.toNat_natCast, Bool.and_self, Bool.or_self, Bool.cond_self, reduceIte, inR_eq, big_eq, beq_self_eq_true, List.nil_append, List.append_nil, List.length_nil, List.length_append, L_laws_sameSegments_4, List.length_map]
  | s :: suf, pre, 0, k, h, hk, hn, hl => by simp at hn
  | s :: suf, pre, n + 1, k, h, hk, hn, hl => by
    simp only [List.length_cons] at hn hl
    have hx : ∀ z, rdI z ((pre ++ s :: suf).map Sg.e) k.toNat = s.e := by
      intro z
      rw [List.map_append, List.map_cons, hk, Int.toNat_natCast]
      have := rd_app z (pre.map Sg.e) (suf.map Sg.e) s.e
      simpa using this
    have ih := same_segments_l suf (pre ++ [s]) n (k + 1) (fun x hx => h x (by simp [hx])) (by simp; omega) (by omega) (by simp; omega)
    rw [List.append_assoc, List.singleton_append] at ih
    have hlen : ((pre ++ s :: suf).map Sg.e).length = pre.length + (suf.length + 1) := by simp
    simp (disch := omega) only [decide_true, decide_false, decide_eq_true, decide_eq_false, if_pos, if_neg, wr, cond_true, cond_false, Bool.not_true, Bool.not_false, Bool.and_true, Bool.true_and, Bool.and_false, Bool.false_and, Bool.or_true, Bool.true_or, Bool.or_false, Bool.false_or, Option.bind_some, Int.toNat_natCast, Bool.and_self, Bool.or_self, Bool.cond_self, reduceIte, inR_eq, big_eq, beq_self_eq_true, List.nil_append, List.append_nil, List.length_nil, List.length_append, L_laws_sameSegments_4, hx, hlen, same_segment s (h s (by simp)), ih]
theorem same_segments (l : List Sg) (h : okL l) (hl : l.length ≤ 1000) : F_laws_sameSegments (l.map Sg.e) (l.map Sg.e) = some ((true, ()), ()) := by
  have := same_segments_l l [] fuel 0 (fun s hs => by have := (Sg.bd (h s hs)).2.2.2.2.2.1; omega) rfl (by rw [fuel_eq]; omega) (by simp; omega)
  simp only [List.nil_append] at this
  simp (disch := omega) only [decide_true, decide_false, decide_eq_true, decide_eq_false, if_pos, if_neg, wr, cond_true, cond_false, Bool.not_true, Bool.not_false, Bool.and_true, Bool.true_and, Bool.and_false, Bool.false_and, Bool.or_true, Bool.true_or, Bool.or_false, Bool.false_or, Option.bind_some, Int.toNat_natCast, Bool.and_self, Bool.or_self, Bool.cond_self, reduceIte, inR_eq, big_eq, beq_self_eq_true, List.nil_append, List.append_nil, List.length_nil, List.length_append, F_laws_sameSegments, this]
/-! ### segments that are ok -/
theorem i_badRange (r : Int × Int) : F_impl_SegmentOk_1 r = !(inn r.1 0 65535 && inn r.2 0 65535) := by
  simp only [F_impl_SegmentOk_1, i_word, Bool.cond_true_left, Bool.not_and]
theorem i_index_l (l0 : List (Int × Int)) : ∀ (suf pre : List (Int × Int)) (n : Nat) (k : Int), l0 = pre ++ suf → k = pre.length → suf.length < n → pre.length + suf.length ≤ 1000000 →
    ∃ j : Int, L_slices_IndexFunc_impl_Range_impl_Range_impl_SegmentOk_1_2 n (l0, (), (l0.length : Int), k, ()) = some ((j, ()), ()) ∧ decide (0 ≤ j) = !(suf.all fun r => inn r.1 0 65535 && inn r.2 0 65535)
  | [], pre, 0, k, he, hk, hn, hl => by simp at hn
  | [], pre, n + 1, k, he, hk, hn, hl => by
    have hlen : l0.length = pre.length := by rw [he]; simp
    exact ⟨-1, by simp (disch := omega) only [decide_true, decide_false, decide_eq_true, decide_eq_false, if_pos, if_neg, wr, cond_true, cond_false, Bool.not_true, Bool.not_false, Bool.and_true, Bool.true_and, Bool.and_false, Bool.false_and, Bool.or_true, Bool.true_or, Bool.or_false, Bool.false_or, Option.bind_some, Int.toNat_natCast, Bool.and_self, Bool.or_self, Bool.cond_self, reduceIte, inR_eq, big_eq, beq_self_eq_true, List.nil_append, List.append_nil, List.length_nil, List.length_append, L_slices_IndexFunc_impl_Range_impl_Range_impl_SegmentOk_1_2], rfl⟩
  | x :: suf, pre, 0, k, he, hk, hn, hl => by simp at hn
  | x :: suf, pre, n + 1, k, he, hk, hn, hl => by
    simp only [List.length_cons] at hn hl
    have hlen : l0.length = pre.length + (suf.length + 1) := by rw [he]; simp
    have hx : rdI (0, 0) l0 k.toNat = x := by rw [he, hk, Int.toNat_natCast]; exact rd_app _ _ _ _
    cases hb : (inn x.1 0 65535 && inn x.2 0 65535) with
    | true =>
      obtain ⟨j, h1, h2⟩ := i_index_l l0 suf (pre ++ [x]) n (k + 1) (by simp [he]) (by simp; omega) (by omega) (by simp; omega)
      exact ⟨j, by simp (disch := omega) only [decide_true, decide_false, decide_eq_true, decide_eq_false, if_pos, if_neg, wr, cond_true, cond_false, Bool.not_true, Bool.not_false, Bool.and_true, Bool.true_and, Bool.and_false, Bool.false_and, Bool.or_true, Bool.true_or, Bool.or_false, Bool.false_or, Option.bind_some, Int.toNat_natCast, Bool.and_self, Bool.or_self, Bool.cond_self, reduceIte, inR_eq, big_eq, beq_self_eq_true, List.nil_append, List.append_nil, List.length_nil, List.length_append, L_slices_IndexFunc_impl_Range_impl_Range_impl_SegmentOk_1_2, hx, i_badRange, hb, h1], by rw [h2, List.all_cons, hb, Bool.true_and]⟩
    | false =>
      refine ⟨k, by simp (disch := omega) only [decide_true, decide_false, decide_eq_true, decide_eq_false, if_pos, if_neg, wr, cond_true, cond_false, Bool.not_true, Bool.not_false, Bool.and_true, Bool.true_and, Bool.and_false, Bool.false_and, Bool.or_true, Bool.true_or, Bool.or_false, Bool.false_or, Option.bind_some, Int.toNat_natCast, Bool.and_self, Bool.or_self, Bool.cond_self, reduceIte, inR_eq, big_eq, beq_self_eq_true, List.nil_append, List.append_nil, List.length_nil, List.length_append, L_slices_IndexFunc_impl_Range_impl_Range_impl_SegmentOk_1_2, hx, i_badRange, hb], ?_⟩
      rw [List.all_cons, hb, decide_eq_true (by omega)]
      rfl
theorem i_SegmentOk (s : Sg) : F_impl_SegmentOk s.e = some ((s.ok, ()), ()) := by
  have d1 : decide ((2 : Int) < (s.ranges.length : Int)) = !decide (s.ranges.length ≤ 2) := by rw [Bool.eq_iff_iff]; simp; omega
  have d2 : decide ((12 : Int) < (s.data.length : Int)) = !decide (s.data.length ≤ 12) := by rw [Bool.eq_iff_iff]; simp; omega
  simp only [F_impl_SegmentOk, i_in, i_word, i_portOk, Sg.ok, Bool.cond_true_left, d1, d2]
  cases inn s.fr 1 255
  · rfl
  cases inn s.to 1 255
  · rfl
  cases inn s.seq 0 65535
  · rfl
  cases inn s.ack 0 65535
  · rfl
  cases inn s.room 0 255
  · rfl
  by_cases h : s.ranges.length ≤ 2
  · by_cases h2 : s.data.length ≤ 12
    · obtain ⟨j, j1, j2⟩ := i_index_l s.ranges s.ranges [] fuel 0 rfl rfl (by rw [fuel_eq]; omega) (by simp; omega)
      have h3 : decide ((0 : Int) < (s.ranges.length : Int)) = !decide (s.ranges.length = 0) := by rw [Bool.eq_iff_iff]; simp; exact List.length_pos_iff
      have h4 : decide ((s.data.length : Int) = 0) = decide (s.data.length = 0) := by rw [Bool.eq_iff_iff]; simp
      rw [decide_eq_true h, decide_eq_true h2]
      simp only [Bool.not_true, Bool.or_false, cond_false, Bool.true_and, F_slices_ContainsFunc_impl_Range_impl_Range_impl_SegmentOk_1, F_slices_IndexFunc_impl_Range_impl_Range_impl_SegmentOk_1, j1, Option.bind_some, j2, h3, h4]
      cases (s.ranges.all fun r => inn r.1 0 65535 && inn r.2 0 65535)
      · rfl
      cases s.heard <;> cases decide (s.ack = 0) <;> cases decide (s.room = 0) <;> cases decide (s.ranges.length = 0) <;> cases s.reset <;> cases s.first <;> cases s.last <;> rfl
    · rw [decide_eq_true h, decide_eq_false h2]
      rfl
  · rw [decide_eq_false h]
    rfl
theorem good_l : ∀ (suf pre : List Sg) (n : Nat) (k : Int), okL suf → k = pre.length → suf.length < n → pre.length + suf.length ≤ 1000000 → L_laws_goodSegments_2 n ((pre ++ suf).map Sg.e, k, ()) = some ((true, ()), ())
  | [], pre, 0, k, h, hk, hn, hl => by simp at hn
  | [], pre, n + 1, k, h, hk, hn, hl => by
    simp (disch := omega) only [decide_true, decide_false, decide_eq_true, decide_eq_false, if_pos, if_neg, wr, cond_true, cond_false, Bool.not_true, Bool.not_false, Bool.and_true, Bool.true_and, Bool.and_false, Bool.false_and, Bool.or_true, Bool.true_or, Bool.or_false, Bool.false_or, Option.bind_some, Int.toNat_natCast, Bool.and_self, Bool.or_self, Bool.cond_self, reduceIte, inR_eq, big_eq, beq_self_eq_true, List.nil_append, List.append_nil, List.length_nil, List.length_append, L_laws_goodSegments_2, List.length_map]
  | s :: suf, pre, 0, k, h, hk, hn, hl => by simp at hn
  | s :: suf, pre, n + 1, k, h, hk, hn, hl => by
    simp only [List.length_cons] at hn hl
    have hx : ∀ z, rdI z ((pre ++ s :: suf).map Sg.e) k.toNat = s.e := by
      intro z
      rw [List.map_append, List.map_cons, hk, Int.toNat_natCast]
      have := rd_app z (pre.map Sg.e) (suf.map Sg.e) s.e
      simpa using this
    have ih := good_l suf (pre ++ [s]) n (k + 1) (fun x hx => h x (by simp [hx])) (by simp; omega) (by omega) (by simp; omega)
    rw [List.append_assoc, List.singleton_append] at ih
    have hlen : ((pre ++ s :: suf).map Sg.e).length = pre.length + (suf.length + 1) := by simp
    have hs : s.ok = true := h s (by simp)
    simp (disch := omega) only [decide_true, decide_false, decide_eq_true, decide_eq_false, if_pos, if_neg, wr, cond_true, cond_false, Bool.not_true, Bool.not_false, Bool.and_true, Bool.true_and, Bool.and_false, Bool.false_and, Bool.or_true, Bool.true_or, Bool.or_false, Bool.false_or, Option.bind_some, Int.toNat_natCast, Bool.and_self, Bool.or_self, Bool.cond_self, reduceIte, inR_eq, big_eq, beq_self_eq_true, List.nil_append, List.append_nil, List.length_nil, List.length_append, L_laws_goodSegments_2, hx, hlen, i_SegmentOk, hs, ih]
theorem good_segments (l : List Sg) (h : okL l) (hl : l.length ≤ 1000) : F_laws_goodSegments (l.map Sg.e) = some ((true, ()), ()) := by
  have := good_l l [] fuel 0 h rfl (by rw [fuel_eq]; omega) (by simp; omega)
  simpa [F_laws_goodSegments] using this
/-! ### connecting, closing, ticking -/
theorem i_first (e : Ed) (he : e.ear.ok = true) (hb : 0 ≤ e.base ∧ e.base ≤ 65535) : F_impl_End_first e.e = some ((e.fst.e, ()), ()) := by
  by_cases h2 : e.st = 2
  · have hs : seqOf e.base = e.base := by unfold seqOf; omega
    have : e.fst = ⟨e.n, e.pn, e.base, 0, 0, true, false, false, false, [], []⟩ := by unfold Ed.fst Ed.seg; rw [if_pos h2, hs]
    simp (disch := omega) only [decide_true, decide_false, decide_eq_true, decide_eq_false, if_pos, if_neg, wr, cond_true, cond_false, Bool.not_true, Bool.not_false, Bool.and_true, Bool.true_and, Bool.and_false, Bool.false_and, Bool.or_true, Bool.true_or, Bool.or_false, Bool.false_or, Option.bind_some, Int.toNat_natCast, Bool.and_self, Bool.or_self, Bool.cond_self, reduceIte, inR_eq, big_eq, beq_self_eq_true, List.nil_append, List.append_nil, List.length_nil, List.length_append, F_impl_End_first, this]
  · have hs := i_segment e e.base [] he (by simp) h2
    have hp : ({ e.seg e.base with data := [] } : Sg) = e.seg e.base := by rw [Ed.seg_plain]
    rw [hp] at hs
    simp (disch := omega) only [decide_true, decide_false, decide_eq_true, decide_eq_false, if_pos, if_neg, wr, cond_true, cond_false, Bool.not_true, Bool.not_false, Bool.and_true, Bool.true_and, Bool.and_false, Bool.false_and, Bool.or_true, Bool.true_or, Bool.or_false, Bool.false_or, Option.bind_some, Int.toNat_natCast, Bool.and_self, Bool.or_self, Bool.cond_self, reduceIte, inR_eq, big_eq, beq_self_eq_true, List.nil_append, List.append_nil, List.length_nil, List.length_append, F_impl_End_first, hs, Ed.fst]
theorem i_last (e : Ed) (he : e.ear.ok = true) (ho : e.out.ok = true) (h2 : e.st ≠ 2) : F_impl_End_last e.e = some ((e.lst.e, ()), ()) := by
  obtain ⟨h1, h2', h3, h4, h5, _⟩ := Mo.ok_sent ho
  have hs := i_segment e (e.out.heard + e.out.keep.length) [] he (by simp) h2
  have hp : ({ e.seg (e.out.heard + e.out.keep.length) with data := [] } : Sg) = e.seg (e.out.heard + e.out.keep.length) := by rw [Ed.seg_plain]
  rw [hp] at hs
  simp (disch := omega) only [decide_true, decide_false, decide_eq_true, decide_eq_false, if_pos, if_neg, wr, cond_true, cond_false, Bool.not_true, Bool.not_false, Bool.and_true, Bool.true_and, Bool.and_false, Bool.false_and, Bool.or_true, Bool.true_or, Bool.or_false, Bool.false_or, Option.bind_some, Int.toNat_natCast, Bool.and_self, Bool.or_self, Bool.cond_self, reduceIte, inR_eq, big_eq, beq_self_eq_true, List.nil_append, List.append_nil, List.length_nil, List.length_append, F_impl_End_last, hs, Ed.lst]
theorem i_EndConnect {e : Ed} (h : e.Is) {addr port now : Int} (ha : 0 ≤ addr ∧ addr ≤ 65535) (hp : 1 ≤ port ∧ port ≤ 255) (hn : 0 ≤ now ∧ now ≤ 900000) :
    F_impl_EndConnect e.e addr port now = some ((if e.st = 0 then ((e.connect addr port now).e, [(e.connect addr port now).fst.e], ()) else (e.e, [], ())), ()) := by
  have hc := Ck.ok_bd h.pulse
  have w1 : inn addr 0 65535 = true := by rw [inn_iff]; exact ha
  have w2 : inn port 1 255 = true := by rw [inn_iff]; exact hp
  by_cases h0 : e.st = 0
  · have ho : e.opn = false := by unfold Ed.opn; simp [h0]
    obtain ⟨c1, c2⟩ := h.calm ho
    have c3 : e.tries = 0 := by omega
    have hop : ({ e with st := 2, paddr := addr, pn := port } : Ed).opn = true := by unfold Ed.opn; simp
    have har := i_arm { e with st := 2, paddr := addr, pn := port } now (by omega) (by simp only; omega) (by rw [hop]; intro z; cases z)
    have e1 : ({ e with st := 2, paddr := addr, pn := port } : Ed).arm now false = e.connect addr port now := by
      unfold Ed.connect Ed.arm
      rw [hop]
      simp [c1, c3]
    rw [e1] at har
    simp only [Ed.e] at har
    have hear : (e.connect addr port now).ear = e.ear := Ed.arm_ear _ _ _
    have hba : (e.connect addr port now).base = e.base := by
      obtain ⟨d, t, hf⟩ := ({ e with st := 2, paddr := addr, pn := port } : Ed).arm_form now true
      unfold Ed.connect; rw [hf]
    have hf := i_first (e.connect addr port now) (by rw [hear]; exact h.ear) (by rw [hba]; exact h.base)
    simp only [Ed.e] at hf
    simp (disch := omega) only [decide_true, decide_false, decide_eq_true, decide_eq_false, if_pos, if_neg, wr, cond_true, cond_false, Bool.not_true, Bool.not_false, Bool.and_true, Bool.true_and, Bool.and_false, Bool.false_and, Bool.or_true, Bool.true_or, Bool.or_false, Bool.false_or, Option.bind_some, Int.toNat_natCast, Bool.and_self, Bool.or_self, Bool.cond_self, reduceIte, inR_eq, big_eq, beq_self_eq_true, List.nil_append, List.append_nil, List.length_nil, List.length_append, F_impl_EndConnect, i_asked h hn, i_word, i_portOk, w1, w2, i_End_copy e (Is.small h).1, har, hf]
  · simp (disch := omega) only [decide_true, decide_false, decide_eq_true, decide_eq_false, if_pos, if_neg, wr, cond_true, cond_false, Bool.not_true, Bool.not_false, Bool.and_true, Bool.true_and, Bool.and_false, Bool.false_and, Bool.or_true, Bool.true_or, Bool.or_false, Bool.false_or, Option.bind_some, Int.toNat_natCast, Bool.and_self, Bool.or_self, Bool.cond_self, reduceIte, inR_eq, big_eq, beq_self_eq_true, List.nil_append, List.append_nil, List.length_nil, List.length_append, F_impl_EndConnect, i_asked h hn, i_word, i_portOk, w1, w2, i_End_copy e (Is.small h).1]
theorem i_EndClose {e : Ed} (h : e.Is) {now : Int} (hn : 0 ≤ now ∧ now ≤ 900000) : F_impl_EndClose e.e now = some (((e.close now).e, e.closeL.map Sg.e, ()), ()) := by
  have hc := Ck.ok_bd h.pulse
  obtain ⟨g1, g2, g3, g4, g5, g6, g7, g8, g9⟩ := Mo.ok_sent h.out
  have hq : (bif (bif (!decide (e.st = 4)) then true else e.ltold) then true else (!decide (e.out.sent = e.out.keep.length))) = !e.lasts := by
    unfold Ed.lasts
    cases decide (e.st = 4) <;> cases e.ltold <;> cases decide (e.out.sent = (e.out.keep.length : Int)) <;> rfl
  cases hl : e.lasts with
  | true =>
    rw [hl] at hq
    have hl' := hl
    unfold Ed.lasts at hl'
    simp only [Bool.and_eq_true, decide_eq_true_eq, Bool.not_eq_true'] at hl'
    obtain ⟨⟨l1, l2⟩, l3⟩ := hl'
    have hlh : e.lheard = false := by
      cases hx : e.lheard with
      | false => rfl
      | true => have := h.lh hx; rw [l2] at this; cases this
    have hop : ({ e with closed := true, ltold := true } : Ed).opn = true := by unfold Ed.opn; simp [l1, hlh]
    have har := i_arm { e with closed := true, ltold := true } now (by omega) (by simp only; omega) (by rw [hop]; intro z; cases z)
    obtain ⟨d, t, hf⟩ := ({ e with closed := true, ltold := true } : Ed).arm_form now false
    have hla := i_last (({ e with closed := true, ltold := true } : Ed).arm now false) (by rw [hf]; exact h.ear) (by rw [hf]; exact h.out) (by rw [hf]; simp only; omega)
    have hls : (({ e with closed := true, ltold := true } : Ed).arm now false).lst = ({ e with closed := true, ltold := true } : Ed).lst := by rw [hf]; rfl
    rw [hls] at hla
    simp only [Ed.e] at har hla
    have c1 : e.close now = ({ e with closed := true, ltold := true } : Ed).arm now false := by unfold Ed.close; rw [hl]; rfl
    have c2 : e.closeL = [({ e with closed := true, ltold := true } : Ed).lst] := by unfold Ed.closeL; rw [hl]; rfl
    simp only [F_impl_EndClose, i_asked h hn, Option.bind_some, Bool.not_true, cond_false, i_End_copy e (Is.small h).1, hq, har, hla, c1, c2, List.map_cons, List.map_nil]
  | false =>
    rw [hl] at hq
    have har := i_arm { e with closed := true } now (by omega) (by simp only; omega) h.calm
    simp only [Ed.e] at har
    have c1 : e.close now = ({ e with closed := true } : Ed).arm now false := by unfold Ed.close; rw [hl]; rfl
    have c2 : e.closeL = [] := by unfold Ed.closeL; rw [hl]; rfl
    simp only [F_impl_EndClose, i_asked h hn, Option.bind_some, Bool.not_true, Bool.not_false, cond_true, cond_false, i_End_copy e (Is.small h).1, hq, har, c1, c2, List.map_nil]
end Go.VI.EwcVi
set_option linter.unusedVariables false
set_option linter.unusedSimpArgs false
namespace Go.VI.EwcVi
open Go Go.VI Go.VI.Ns

theorem i_ClockLate {c : Ck} (h : c.ok = true) : F_impl_ClockLate c.e = some ((c.late.e, ()), ()) := by
  have := Ck.ok_bd h
  by_cases hc : 2 * c.wait < 200
  · have hm : min 200 (2 * c.wait) = 2 * c.wait := by omega
    simp (disch := omega) only [decide_true, decide_false, decide_eq_true, decide_eq_false, if_pos, if_neg, wr, cond_true, cond_false, Bool.not_true, Bool.not_false, Bool.and_true, Bool.true_and, Bool.and_false, Bool.false_and, Bool.or_true, Bool.true_or, Bool.or_false, Bool.false_or, Option.bind_some, Int.toNat_natCast, Bool.and_self, Bool.or_self, Bool.cond_self, reduceIte, inR_eq, big_eq, beq_self_eq_true, List.nil_append, List.append_nil, List.length_nil, List.length_append, F_impl_ClockLate, i_ClockOk, h, Ck.late, hm]
  · have hm : min 200 (2 * c.wait) = 200 := by omega
    simp (disch := omega) only [decide_true, decide_false, decide_eq_true, decide_eq_false, if_pos, if_neg, wr, cond_true, cond_false, Bool.not_true, Bool.not_false, Bool.and_true, Bool.true_and, Bool.and_false, Bool.false_and, Bool.or_true, Bool.true_or, Bool.or_false, Bool.false_or, Option.bind_some, Int.toNat_natCast, Bool.and_self, Bool.or_self, Bool.cond_self, reduceIte, inR_eq, big_eq, beq_self_eq_true, List.nil_append, List.append_nil, List.length_nil, List.length_append, F_impl_ClockLate, i_ClockOk, h, Ck.late, hm]
theorem i_Mouth_again {m : Mo} (h : m.ok = true) : F_impl_Mouth_again m.e 12 = some ((m.agn 12, ()), ()) := by
  obtain ⟨h1, h2, h3, h4, h5, h6, h7, h8, h9⟩ := Mo.ok_sent h
  have hcl : ∀ x : Nat, F_impl_clone_byte (m.keep.take x) = some ((m.keep.take x, ()), ()) := fun x => i_cloneB _ (by simp; omega)
  cases he : m.early with
  | nil =>
    have hel : (m.early.length : Int) = 0 := by rw [he]; rfl
    by_cases a : m.sent < 12
    · have hm : min (min m.sent 12) m.sent = m.sent := by omega
      simp (disch := omega) only [decide_true, decide_false, decide_eq_true, decide_eq_false, if_pos, if_neg, wr, cond_true, cond_false, Bool.not_true, Bool.not_false, Bool.and_true, Bool.true_and, Bool.and_false, Bool.false_and, Bool.or_true, Bool.true_or, Bool.or_false, Bool.false_or, Option.bind_some, Int.toNat_natCast, Bool.and_self, Bool.or_self, Bool.cond_self, reduceIte, inR_eq, big_eq, beq_self_eq_true, List.nil_append, List.append_nil, List.length_nil, List.length_append, F_impl_Mouth_again, hel, Mo.agn, he, hm, List.length_nil, Int.natCast_zero, hcl]
    · have hm : min (min m.sent 12) m.sent = 12 := by omega
      simp (disch := omega) only [decide_true, decide_false, decide_eq_true, decide_eq_false, if_pos, if_neg, wr, cond_true, cond_false, Bool.not_true, Bool.not_false, Bool.and_true, Bool.true_and, Bool.and_false, Bool.false_and, Bool.or_true, Bool.true_or, Bool.or_false, Bool.false_or, Option.bind_some, Int.toNat_natCast, Bool.and_self, Bool.or_self, Bool.cond_self, reduceIte, inR_eq, big_eq, beq_self_eq_true, List.nil_append, List.append_nil, List.length_nil, List.length_append, F_impl_Mouth_again, hel, Mo.agn, he, hm, List.length_nil, Int.natCast_zero, hcl]
  | cons r l =>
    have hel : m.early.length = l.length + 1 := by rw [he]; rfl
    have hr := earlyOk_mem h9 r (by rw [he]; simp)
    have hrd : rdI (0, 0) (r :: l) (0 : Int).toNat = r := rfl
    by_cases a : m.sent < 12 <;> by_cases b : r.1 - m.heard < min m.sent 12
    all_goals
      have hm : min (min m.sent 12) (r.1 - m.heard) = (if r.1 - m.heard < min m.sent 12 then r.1 - m.heard else if m.sent < 12 then m.sent else 12) := by split <;> (try split) <;> omega
      simp (disch := omega) only [decide_true, decide_false, decide_eq_true, decide_eq_false, if_pos, if_neg, wr, cond_true, cond_false, Bool.not_true, Bool.not_false, Bool.and_true, Bool.true_and, Bool.and_false, Bool.false_and, Bool.or_true, Bool.true_or, Bool.or_false, Bool.false_or, Option.bind_some, Int.toNat_natCast, Bool.and_self, Bool.or_self, Bool.cond_self, reduceIte, inR_eq, big_eq, beq_self_eq_true, List.nil_append, List.append_nil, List.length_nil, List.length_append, F_impl_Mouth_again, hel, Mo.agn, he, hm, hrd, List.length_cons, hcl]
theorem agn_pos {m : Mo} (h : m.ok = true) : (0 < ((m.agn 12).length : Int)) ↔ 0 < m.sent := by
  obtain ⟨h1, h2, h3, h4, h5, h6, h7, h8, h9⟩ := Mo.ok_sent h
  unfold Mo.agn
  rw [List.length_take]
  cases he : m.early with
  | nil => simp only; omega
  | cons r l =>
    have hr := earlyOk_mem h9 r (by rw [he]; simp)
    simp only; omega
theorem i_EndTick {e : Ed} (h : e.Is) {now : Int} (hn : 0 ≤ now ∧ now ≤ 900000) : F_impl_EndTick e.e now = some (((e.tick now).e, (e.tickL now).map Sg.e, ()), ()) := by
  have hc := Ck.ok_bd h.pulse
  obtain ⟨g1, g2, g3, g4, g5, g6, g7, g8, g9⟩ := Mo.ok_sent h.out
  have ht := h.tries
  by_cases h1 : e.due = 0
  · simp (disch := omega) only [decide_true, decide_false, decide_eq_true, decide_eq_false, if_pos, if_neg, wr, cond_true, cond_false, Bool.not_true, Bool.not_false, Bool.and_true, Bool.true_and, Bool.and_false, Bool.false_and, Bool.or_true, Bool.true_or, Bool.or_false, Bool.false_or, Option.bind_some, Int.toNat_natCast, Bool.and_self, Bool.or_self, Bool.cond_self, reduceIte, inR_eq, big_eq, beq_self_eq_true, List.nil_append, List.append_nil, List.length_nil, List.length_append, F_impl_EndTick, i_asked h hn, i_End_copy e (Is.small h).1, Ed.tick, Ed.tickL, true_or, List.map_nil]
  by_cases h2 : now < e.due
  · simp (disch := omega) only [decide_true, decide_false, decide_eq_true, decide_eq_false, if_pos, if_neg, wr, cond_true, cond_false, Bool.not_true, Bool.not_false, Bool.and_true, Bool.true_and, Bool.and_false, Bool.false_and, Bool.or_true, Bool.true_or, Bool.or_false, Bool.false_or, Option.bind_some, Int.toNat_natCast, Bool.and_self, Bool.or_self, Bool.cond_self, reduceIte, inR_eq, big_eq, beq_self_eq_true, List.nil_append, List.append_nil, List.length_nil, List.length_append, F_impl_EndTick, i_asked h hn, i_End_copy e (Is.small h).1, Ed.tick, Ed.tickL, or_true, List.map_nil]
  have h12 : ¬ (e.due = 0 ∨ now < e.due) := by omega
  by_cases h3 : e.tries = 8
  · simp (disch := omega) only [decide_true, decide_false, decide_eq_true, decide_eq_false, if_pos, if_neg, wr, cond_true, cond_false, Bool.not_true, Bool.not_false, Bool.and_true, Bool.true_and, Bool.and_false, Bool.false_and, Bool.or_true, Bool.true_or, Bool.or_false, Bool.false_or, Option.bind_some, Int.toNat_natCast, Bool.and_self, Bool.or_self, Bool.cond_self, reduceIte, inR_eq, big_eq, beq_self_eq_true, List.nil_append, List.append_nil, List.length_nil, List.length_append, F_impl_EndTick, i_asked h hn, i_End_copy e (Is.small h).1, Ed.tick, Ed.tickL, h12, List.map_nil]
  have hop := h.open_of_due h1
  have hst := Ed.st_of_opn hop
  have hl := i_ClockLate h.pulse
  have hw : 4 ≤ e.pulse.late.wait ∧ e.pulse.late.wait ≤ 200 := by simp only [Ck.late]; omega
  have hg : e.goes now = { e with pulse := e.pulse.late, due := now + e.pulse.late.wait, tries := e.tries + 1 } := rfl
  have e1 : e.tick now = e.goes now := by unfold Ed.tick; rw [if_neg h12, if_neg h3]
  have e2 : e.tickL now = if e.st = 2 ∨ e.st = 3 then [(e.goes now).fst] else
      if 0 < e.out.sent then [{ (e.goes now).seg e.out.heard with data := e.out.agn 12 }] else
        if e.ltold && !e.lheard then [(e.goes now).lst] else [(e.goes now).seg (e.out.heard - 1)] := by unfold Ed.tickL; rw [if_neg h12, if_neg h3]
  have key : ∀ s : Sg, e.tickL now = [s] → F_impl_End_again (e.goes now).e = some ((s.e, ()), ()) → F_impl_EndTick e.e now = some (((e.tick now).e, (e.tickL now).map Sg.e, ()), ()) := by
    intro s hs ha
    rw [hg] at ha
    simp only [Ed.e] at ha
    simp (disch := omega) only [decide_true, decide_false, decide_eq_true, decide_eq_false, if_pos, if_neg, wr, cond_true, cond_false, Bool.not_true, Bool.not_false, Bool.and_true, Bool.true_and, Bool.and_false, Bool.false_and, Bool.or_true, Bool.true_or, Bool.or_false, Bool.false_or, Option.bind_some, Int.toNat_natCast, Bool.and_self, Bool.or_self, Bool.cond_self, reduceIte, inR_eq, big_eq, beq_self_eq_true, List.nil_append, List.append_nil, List.length_nil, List.length_append, F_impl_EndTick, i_asked h hn, i_End_copy e (Is.small h).1, hl, e1, hs, List.map_cons, List.map_nil, ha]
    rfl
  have hst' : (e.goes now).st = e.st := rfl
  by_cases a4 : e.st = 4
  · have a23 : ¬ (e.st = 2 ∨ e.st = 3) := by omega
    rw [if_neg a23] at e2
    have hag := i_Mouth_again h.out
    have hpos := agn_pos h.out
    have hal := e.out.agn_len
    by_cases hs : 0 < e.out.sent
    · rw [if_pos hs] at e2
      refine key _ e2 ?_
      have hp := hpos.2 hs
      have hsg := i_segment (e.goes now) e.out.heard (e.out.agn 12) h.ear (by omega) (by rw [hst']; omega)
      rw [hg] at hsg ⊢
      simp only [Ed.e] at hsg ⊢
      simp (disch := omega) only [decide_true, decide_false, decide_eq_true, decide_eq_false, if_pos, if_neg, wr, cond_true, cond_false, Bool.not_true, Bool.not_false, Bool.and_true, Bool.true_and, Bool.and_false, Bool.false_and, Bool.or_true, Bool.true_or, Bool.or_false, Bool.false_or, Option.bind_some, Int.toNat_natCast, Bool.and_self, Bool.or_self, Bool.cond_self, reduceIte, inR_eq, big_eq, beq_self_eq_true, List.nil_append, List.append_nil, List.length_nil, List.length_append, F_impl_End_again, hag, hsg]
    · rw [if_neg hs] at e2
      have hp : ¬ 0 < ((e.out.agn 12).length : Int) := fun z => hs (hpos.1 z)
      have hlh : (e.ltold && !e.lheard) = e.ltold := by
        cases hx : e.ltold with
        | false => rfl
        | true =>
          have hk := (h.lt hx).2.1
          have hke : e.out.keep = [] := List.length_eq_zero_iff.1 (by omega)
          unfold Ed.opn at hop
          simp [a4, hke, hx] at hop
          simp [hop]
      rw [hlh] at e2
      cases hx : e.ltold with
      | true =>
        simp only [hx, if_true] at e2
        refine key _ e2 ?_
        have hla := i_last (e.goes now) h.ear h.out (by rw [hst']; omega)
        have hgl : (e.goes now).ltold = true := hx
        rw [hg] at hla hgl ⊢
        simp only [Ed.e] at hla hgl ⊢
        simp only [F_impl_End_again, a4, hag, Option.bind_some, decide_eq_false hp, cond_false, hgl, cond_true, decide_true, Bool.not_true] at hla ⊢
        rw [hla]
        rfl
      | false =>
        simp only [hx, Bool.false_eq_true, if_false] at e2
        refine key _ e2 ?_
        have hsg := i_segment (e.goes now) (e.out.heard - 1) [] h.ear (by simp) (by rw [hst']; omega)
        have hp2 : ({ (e.goes now).seg (e.out.heard - 1) with data := [] } : Sg) = (e.goes now).seg (e.out.heard - 1) := by rw [Ed.seg_plain]
        rw [hp2] at hsg
        have hgl : (e.goes now).ltold = false := hx
        have w : IntKind.i64.wrap (e.out.heard - 1) = e.out.heard - 1 := wr (by omega) (by omega)
        rw [hg] at hsg hgl ⊢
        simp only [Ed.e] at hsg hgl ⊢
        simp only [F_impl_End_again, a4, hag, Option.bind_some, decide_eq_false hp, cond_false, hgl, decide_true, Bool.not_true, w] at hsg ⊢
        rw [hsg]
        rfl
  · have a23 : e.st = 2 ∨ e.st = 3 := by omega
    rw [if_pos a23] at e2
    refine key _ e2 ?_
    have hf := i_first (e.goes now) h.ear h.base
    rw [hg] at hf ⊢
    simp only [Ed.e] at hf ⊢
    simp (disch := omega) only [decide_true, decide_false, decide_eq_true, decide_eq_false, if_pos, if_neg, wr, cond_true, cond_false, Bool.not_true, Bool.not_false, Bool.and_true, Bool.true_and, Bool.and_false, Bool.false_and, Bool.or_true, Bool.true_or, Bool.or_false, Bool.false_or, Option.bind_some, Int.toNat_natCast, Bool.and_self, Bool.or_self, Bool.cond_self, reduceIte, inR_eq, big_eq, beq_self_eq_true, List.nil_append, List.append_nil, List.length_nil, List.length_append, F_impl_End_again, hf]
/-! ### draws -/
theorem s_seq {r : List Int × Int} {m : Int} (h : RdOk r m) (hm : m ≤ 100000) : ∃ v r', F_spec_l20Rd_seq r = some ((v, ()), (r', ())) ∧ 0 ≤ v ∧ v ≤ 65535 ∧ RdOk r' (m + 6) := by
  obtain ⟨v1, r1, a1, a2, a3, a4⟩ := s_pick (n := 9) h (by omega) (by omega)
  obtain ⟨v2, r2, b1, b2, b3, b4⟩ := s_pick (n := 9) a4 (by omega) (by omega)
  obtain ⟨v3, r3, c1, c2, c3, c4⟩ := s_pick (n := 5) b4 (by omega) (by omega)
  obtain ⟨v4, r4, d1, d2, d3, d4⟩ := s_pick (n := 256) c4 (by omega) (by omega)
  obtain ⟨v5, r5, e1, e2, e3, e4⟩ := s_pick (n := 256) d4 (by omega) (by omega)
  obtain ⟨v6, r6, f1, f2, f3, f4⟩ := s_pick (n := 4) e4 (by omega) (by omega)
  have hl : ([v1, 65535 - v2, 32768 + v3 - 2, v4 * 256 + v5] : List Int).length = 4 := rfl
  have hb : 0 ≤ rdI (0 : Int) [v1, 65535 - v2, 32768 + v3 - 2, v4 * 256 + v5] v6.toNat ∧ rdI (0 : Int) [v1, 65535 - v2, 32768 + v3 - 2, v4 * 256 + v5] v6.toNat ≤ 65535 := by
    have : v6 = 0 ∨ v6 = 1 ∨ v6 = 2 ∨ v6 = 3 := by omega
    rcases this with rfl | rfl | rfl | rfl
    · show 0 ≤ v1 ∧ v1 ≤ 65535; omega
    · show 0 ≤ 65535 - v2 ∧ 65535 - v2 ≤ 65535; omega
    · show 0 ≤ 32768 + v3 - 2 ∧ 32768 + v3 - 2 ≤ 65535; omega
    · show 0 ≤ v4 * 256 + v5 ∧ v4 * 256 + v5 ≤ 65535; omega
  refine ⟨_, r6, ?_, hb.1, hb.2, f4.le (by omega)⟩
  simp (disch := omega) only [decide_true, decide_false, decide_eq_true, decide_eq_false, if_pos, if_neg, wr, cond_true, cond_false, Bool.not_true, Bool.not_false, Bool.and_true, Bool.true_and, Bool.and_false, Bool.false_and, Bool.or_true, Bool.true_or, Bool.or_false, Bool.false_or, Option.bind_some, Int.toNat_natCast, Bool.and_self, Bool.or_self, Bool.cond_self, reduceIte, inR_eq, big_eq, beq_self_eq_true, List.nil_append, List.append_nil, List.length_nil, List.length_append, F_spec_l20Rd_seq, a1, b1, c1, d1, e1, f1, hl]
theorem s_DrawEndClose (l : List Int) (hb : ∀ x ∈ l, 0 ≤ x ∧ x ≤ 255) (hl : l.length ≤ 1000000000000) : ∃ (e : Ed) (now : Int), F_spec_DrawEndClose l = some ((e.e, now, ()), ()) ∧ e.ear.ok = true ∧ 0 ≤ now ∧ now ≤ 2000 := by
  obtain ⟨r, h1, h2⟩ := s_l20Open l hb hl
  obtain ⟨e, r', h3, h4, h5⟩ := s_l20End h2 (by omega) (n := 15) (by omega)
  obtain ⟨v1, r1, a1, a2, a3, a4⟩ := s_pick (n := 256) h5 (by omega) (by omega)
  exact ⟨e, v1 * 4, by simp (disch := omega) only [decide_true, decide_false, decide_eq_true, decide_eq_false, if_pos, if_neg, wr, cond_true, cond_false, Bool.not_true, Bool.not_false, Bool.and_true, Bool.true_and, Bool.and_false, Bool.false_and, Bool.or_true, Bool.true_or, Bool.or_false, Bool.false_or, Option.bind_some, Int.toNat_natCast, Bool.and_self, Bool.or_self, Bool.cond_self, reduceIte, inR_eq, big_eq, beq_self_eq_true, List.nil_append, List.append_nil, List.length_nil, List.length_append, F_spec_DrawEndClose, h1, h3, a1], h4, by omega, by omega⟩
theorem s_DrawEndConnect (l : List Int) (hb : ∀ x ∈ l, 0 ≤ x ∧ x ≤ 255) (hl : l.length ≤ 1000000000000) : ∃ (e : Ed) (addr port now : Int), F_spec_DrawEndConnect l = some ((e.e, addr, port, now, ()), ()) ∧ e.ear.ok = true ∧ (0 ≤ addr ∧ addr ≤ 4) ∧ (0 ≤ port ∧ port ≤ 8) ∧ (0 ≤ now ∧ now ≤ 99) := by
  obtain ⟨r, h1, h2⟩ := s_l20Open l hb hl
  obtain ⟨sq, r0, z1, z2, z3, z4⟩ := s_seq h2 (by omega)
  have hnew := s_EndNew (addr := 1) (port := 7) (base := sq) (room := 9) (by omega) (by omega) (by omega) (by omega)
  have hnis := Ed.new_is (addr := 1) (port := 7) (base := sq) (room := 9) (by omega) (by omega) (by omega) (by omega)
  obtain ⟨v0, r1, y1, y2, y3, y4⟩ := s_pick (n := 3) z4 (by omega) (by omega)
  by_cases hv : v0 = 0
  · obtain ⟨e, r', h3, h4, h5⟩ := s_l20End y4 (by omega) (n := 9) (by omega)
    obtain ⟨v1, r1, a1, a2, a3, a4⟩ := s_pick (n := 5) h5 (by omega) (by omega)
    obtain ⟨v2, r2, b1, b2, b3, b4⟩ := s_pick (n := 9) a4 (by omega) (by omega)
    obtain ⟨v3, r3, c1, c2, c3, c4⟩ := s_pick (n := 100) b4 (by omega) (by omega)
    exact ⟨e, v1, v2, v3, by simp (disch := omega) only [decide_true, decide_false, decide_eq_true, decide_eq_false, if_pos, if_neg, wr, cond_true, cond_false, Bool.not_true, Bool.not_false, Bool.and_true, Bool.true_and, Bool.and_false, Bool.false_and, Bool.or_true, Bool.true_or, Bool.or_false, Bool.false_or, Option.bind_some, Int.toNat_natCast, Bool.and_self, Bool.or_self, Bool.cond_self, reduceIte, inR_eq, big_eq, beq_self_eq_true, List.nil_append, List.append_nil, List.length_nil, List.length_append, F_spec_DrawEndConnect, h1, z1, hnew, y1, h3, a1, b1, c1], h4, by omega, by omega, by omega⟩
  · obtain ⟨v1, r1, a1, a2, a3, a4⟩ := s_pick (n := 5) y4 (by omega) (by omega)
    obtain ⟨v2, r2, b1, b2, b3, b4⟩ := s_pick (n := 9) a4 (by omega) (by omega)
    obtain ⟨v3, r3, c1, c2, c3, c4⟩ := s_pick (n := 100) b4 (by omega) (by omega)
    exact ⟨Ed.new 1 7 sq 9, v1, v2, v3, by simp (disch := omega) only [decide_true, decide_false, decide_eq_true, decide_eq_false, if_pos, if_neg, wr, cond_true, cond_false, Bool.not_true, Bool.not_false, Bool.and_true, Bool.true_and, Bool.and_false, Bool.false_and, Bool.or_true, Bool.true_or, Bool.or_false, Bool.false_or, Option.bind_some, Int.toNat_natCast, Bool.and_self, Bool.or_self, Bool.cond_self, reduceIte, inR_eq, big_eq, beq_self_eq_true, List.nil_append, List.append_nil, List.length_nil, List.length_append, F_spec_DrawEndConnect, h1, z1, hnew, y1, a1, b1, c1], hnis.ear, by omega, by omega, by omega⟩
end Go.VI.EwcVi
set_option linter.unusedVariables false
set_option linter.unusedSimpArgs false
namespace Go.VI.EwcVi
open Go Go.VI Go.VI.Ns

theorem same_zero : F_laws_sameEnd (0, 0, 0, 0, 0, 0, (0, [], 0, 0, []), (0, 0, [], []), false, false, false, 0, 0, 0, 0, 0, 0) (0, 0, 0, 0, 0, 0, (0, [], 0, 0, []), (0, 0, [], []), false, false, false, 0, 0, 0, 0, 0, 0) = some ((true, ()), ()) := same_end _ (by simp) (by simp)
theorem same_none : F_laws_sameSegments [] [] = some ((true, ()), ()) := same_segments [] okL_nil (by simp)
theorem arm_again {x : Ed} (h : x.Is) (now : Int) (hd : x.opn = true → x.due ≠ 0) : x.arm now false = x := by
  unfold Ed.arm
  cases ho : x.opn with
  | true => have := hd ho; simp [this]
  | false =>
    obtain ⟨h1, h2⟩ := h.calm ho
    cases x with
    | mk st addr n paddr pn base out ear closed ltold lheard plast due tries pulse =>
      simp only at h1 h2
      subst h1
      by_cases h5 : st = 5
      · simp [h5]
      · have : tries = 0 := by omega
        subst this
        simp [h5]
theorem arm_due (y : Ed) {now : Int} (hn : 0 ≤ now) (hw : 4 ≤ y.pulse.wait) : (y.arm now false).opn = true → (y.arm now false).due ≠ 0 := by
  intro h
  have ho : (y.arm now false).opn = y.opn := by
    obtain ⟨d, t, hf⟩ := y.arm_form now false
    rw [hf]; rfl
  rw [ho] at h
  unfold Ed.arm
  rw [h]
  by_cases hd : y.due = 0
  · simp [hd]; omega
  · simp [hd]
theorem close_twice {e : Ed} (h : e.Is) {now : Int} (hn : 0 ≤ now ∧ now ≤ 900000) : (e.close now).closed = true ∧ (e.close now).close now = e.close now ∧ (e.close now).closeL = [] := by
  have hx := h.close hn
  have hw := Ck.ok_bd h.pulse
  have key : ∃ y : Ed, e.close now = y.arm now false ∧ y.closed = true ∧ y.lasts = false ∧ y.pulse = e.pulse := by
    unfold Ed.close
    cases hl : e.lasts with
    | true => exact ⟨{ e with closed := true, ltold := true }, rfl, rfl, by unfold Ed.lasts; simp, rfl⟩
    | false => exact ⟨{ e with closed := true }, rfl, rfl, hl, rfl⟩
  obtain ⟨y, y1, y2, y3, y4⟩ := key
  obtain ⟨d, t, hf⟩ := y.arm_form now false
  have c1 : (e.close now).closed = true := by rw [y1, hf]; exact y2
  have c2 : (e.close now).lasts = false := by rw [y1, hf]; exact y3
  refine ⟨c1, ?_, by unfold Ed.closeL; rw [c2]; rfl⟩
  have hd : (e.close now).opn = true → (e.close now).due ≠ 0 := by
    rw [y1]
    exact arm_due y hn.1 (by rw [y4]; omega)
  have e1 : (e.close now).close now = (e.close now).arm now false := by
    generalize e.close now = x at c1 c2
    unfold Ed.close
    rw [c2]
    cases x
    simp only at c1
    subst c1
    rfl
  rw [e1]
  exact arm_again hx now hd
theorem pure0_FnEndClose (l : List Int) (h2 : ∀ n ∈ l, 0 ≤ n ∧ n ≤ 255) : F_laws_FnEndClose l = some ((true, ()), ()) := by
  by_cases hl : (1048576 : Int) < l.length
  · simp (disch := omega) only [decide_true, decide_false, decide_eq_true, decide_eq_false, if_pos, if_neg, wr, cond_true, cond_false, Bool.not_true, Bool.not_false, Bool.and_true, Bool.true_and, Bool.and_false, Bool.false_and, Bool.or_true, Bool.true_or, Bool.or_false, Bool.false_or, Option.bind_some, Int.toNat_natCast, Bool.and_self, Bool.or_self, Bool.cond_self, reduceIte, inR_eq, big_eq, beq_self_eq_true, List.nil_append, List.append_nil, List.length_nil, List.length_append, F_laws_FnEndClose]
  obtain ⟨e, now, hd, he, n1, n2⟩ := s_DrawEndClose l h2 (by omega)
  obtain ⟨k1, k2, k3, k4, k5, k6, k7⟩ := Ea.ok_bd he
  have hf := Ea.ok_far he
  have hok := i_EndOk e (by omega) (by omega) (by omega)
  have sok := s_EndOk e (by omega)
  cases hk : e.ok with
  | false =>
    rw [hk] at hok sok
    simp (disch := omega) only [decide_true, decide_false, decide_eq_true, decide_eq_false, if_pos, if_neg, wr, cond_true, cond_false, Bool.not_true, Bool.not_false, Bool.and_true, Bool.true_and, Bool.and_false, Bool.false_and, Bool.or_true, Bool.true_or, Bool.or_false, Bool.false_or, Option.bind_some, Int.toNat_natCast, Bool.and_self, Bool.or_self, Bool.cond_self, reduceIte, inR_eq, big_eq, beq_self_eq_true, List.nil_append, List.append_nil, List.length_nil, List.length_append, F_laws_FnEndClose, hd, F_impl_EndClose, F_impl_asked, F_spec_EndClose, hok, sok, same_zero, same_none, List.length_nil, Int.natCast_zero, l_alive]
  | true =>
    have hi := (Ed.ok_iff e).1 hk
    have hn : 0 ≤ now ∧ now ≤ 900000 := by omega
    rw [hk] at hok
    have hx := hi.close hn
    obtain ⟨c1, c2, c3⟩ := close_twice hi hn
    have hc := i_EndClose hi hn
    have sc := s_EndClose hi hn
    have hse := same_end_is hx
    obtain ⟨l1, l2⟩ := Ed.closeL_ok hi
    have hss := same_segments e.closeL l1 (by omega)
    have hag := i_EndClose hx hn
    rw [c2, c3] at hag
    have hwr := i_EndWrite hx (data := [1, 2]) (now := now) (by simp) hn
    have hp : (e.close now).putN [1, 2] = 0 := by unfold Ed.putN; rw [c1]; rfl
    rw [hp] at hwr
    have hxk := i_EndOk_is hx
    have hg := good_segments e.closeL l1 (by omega)
    generalize e.close now = x at *
    simp (disch := omega) only [decide_true, decide_false, decide_eq_true, decide_eq_false, if_pos, if_neg, wr, cond_true, cond_false, Bool.not_true, Bool.not_false, Bool.and_true, Bool.true_and, Bool.and_false, Bool.false_and, Bool.or_true, Bool.true_or, Bool.or_false, Bool.false_or, Option.bind_some, Int.toNat_natCast, Bool.and_self, Bool.or_self, Bool.cond_self, reduceIte, inR_eq, big_eq, beq_self_eq_true, List.nil_append, List.append_nil, List.length_nil, List.length_append, F_laws_FnEndClose, hd, hc, sc, hse, hss, hok, hag, hwr, hxk, hg, c1, List.map_nil, List.length_nil, Int.natCast_zero]
theorem pure0_FnEndConnect (l : List Int) (h2 : ∀ n ∈ l, 0 ≤ n ∧ n ≤ 255) : F_laws_FnEndConnect l = some ((true, ()), ()) := by
  by_cases hl : (1048576 : Int) < l.length
  · simp (disch := omega) only [decide_true, decide_false, decide_eq_true, decide_eq_false, if_pos, if_neg, wr, cond_true, cond_false, Bool.not_true, Bool.not_false, Bool.and_true, Bool.true_and, Bool.and_false, Bool.false_and, Bool.or_true, Bool.true_or, Bool.or_false, Bool.false_or, Option.bind_some, Int.toNat_natCast, Bool.and_self, Bool.or_self, Bool.cond_self, reduceIte, inR_eq, big_eq, beq_self_eq_true, List.nil_append, List.append_nil, List.length_nil, List.length_append, F_laws_FnEndConnect]
  obtain ⟨e, addr, port, now, hd, he, na, np, nn⟩ := s_DrawEndConnect l h2 (by omega)
  obtain ⟨k1, k2, k3, k4, k5, k6, k7⟩ := Ea.ok_bd he
  have hf := Ea.ok_far he
  have hok := i_EndOk e (by omega) (by omega) (by omega)
  have sok := s_EndOk e (by omega)
  cases hk : e.ok with
  | false =>
    rw [hk] at hok sok
    simp (disch := omega) only [decide_true, decide_false, decide_eq_true, decide_eq_false, if_pos, if_neg, wr, cond_true, cond_false, Bool.not_true, Bool.not_false, Bool.and_true, Bool.true_and, Bool.and_false, Bool.false_and, Bool.or_true, Bool.true_or, Bool.or_false, Bool.false_or, Option.bind_some, Int.toNat_natCast, Bool.and_self, Bool.or_self, Bool.cond_self, reduceIte, inR_eq, big_eq, beq_self_eq_true, List.nil_append, List.append_nil, List.length_nil, List.length_append, F_laws_FnEndConnect, hd, F_impl_EndConnect, F_impl_asked, F_spec_EndConnect, hok, sok, same_zero, same_none, List.length_nil, Int.natCast_zero, l_alive]
  | true =>
    have hi := (Ed.ok_iff e).1 hk
    have hn : 0 ≤ now ∧ now ≤ 900000 := by omega
    rw [hk] at hok sok
    by_cases hp : port < 1
    · simp (disch := omega) only [decide_true, decide_false, decide_eq_true, decide_eq_false, if_pos, if_neg, wr, cond_true, cond_false, Bool.not_true, Bool.not_false, Bool.and_true, Bool.true_and, Bool.and_false, Bool.false_and, Bool.or_true, Bool.true_or, Bool.or_false, Bool.false_or, Option.bind_some, Int.toNat_natCast, Bool.and_self, Bool.or_self, Bool.cond_self, reduceIte, inR_eq, big_eq, beq_self_eq_true, List.nil_append, List.append_nil, List.length_nil, List.length_append, F_laws_FnEndConnect, hd, F_impl_EndConnect, F_impl_asked, F_spec_EndConnect, hok, sok, i_word, i_portOk, i_in, s_l1In, inn, same_zero, same_none, List.length_nil, Int.natCast_zero, l_alive]
    have hc := i_EndConnect hi (addr := addr) (port := port) (now := now) (by omega) (by omega) hn
    have sc := s_EndConnect hi (addr := addr) (port := port) (now := now) (by omega) (by omega) hn
    by_cases h0 : e.st = 0
    · rw [if_pos h0] at hc sc
      have hx := hi.connect h0 (addr := addr) (port := port) (now := now) (by omega) (by omega) hn
      have hfo := Ed.connect_fst hi (addr := addr) (port := port) (now := now) (by omega)
      have hw := Ck.ok_bd hi.pulse
      have hop : ({ e with st := 2, paddr := addr, pn := port } : Ed).opn = true := by unfold Ed.opn; simp
      have hform : e.connect addr port now = { e with st := 2, paddr := addr, pn := port, tries := 0, due := now + e.pulse.wait } := by
        unfold Ed.connect Ed.arm; rw [hop]; rfl
      have hdue : (e.connect addr port now).due = now + e.pulse.wait := by rw [hform]
      have htl : (e.connect addr port now).tickL (e.connect addr port now).due = [(e.connect addr port now).fst] := by
        rw [hform]
        unfold Ed.tickL
        rw [if_neg (by simp only; omega), if_neg (by simp only; omega), if_pos (.inl rfl)]
        rfl
      have htk := i_EndTick hx (now := (e.connect addr port now).due) (by rw [hdue]; omega)
      rw [htl] at htk
      have hse := same_end_is hx
      have hss := same_segments [(e.connect addr port now).fst] (okL_one hfo) (by simp)
      have hg := good_segments [(e.connect addr port now).fst] (okL_one hfo) (by simp)
      have hxk := i_EndOk_is hx
      have hb := hi.base
      have hfst : (e.connect addr port now).fst.first = true ∧ (e.connect addr port now).fst.heard = false ∧ (e.connect addr port now).fst.seq = e.base := by
        rw [hform]
        refine ⟨rfl, ?_, ?_⟩
        · unfold Ed.fst Ed.seg; rfl
        · have hs : seqOf e.base = e.base := by unfold seqOf; omega
          unfold Ed.fst Ed.seg
          simp only [if_true]
          exact hs
      obtain ⟨q1, q2, q3⟩ := hfst
      generalize e.connect addr port now = x at *
      have hrd : ∀ z, rdI z [x.fst.e] (0 : Int).toNat = x.fst.e := fun z => rfl
      simp only [List.map_cons, List.map_nil] at htk hss hg
      simp (disch := omega) only [decide_true, decide_false, decide_eq_true, decide_eq_false, if_pos, if_neg, wr, cond_true, cond_false, Bool.not_true, Bool.not_false, Bool.and_true, Bool.true_and, Bool.and_false, Bool.false_and, Bool.or_true, Bool.true_or, Bool.or_false, Bool.false_or, Option.bind_some, Int.toNat_natCast, Bool.and_self, Bool.or_self, Bool.cond_self, reduceIte, inR_eq, big_eq, beq_self_eq_true, List.nil_append, List.append_nil, List.length_nil, List.length_append, F_laws_FnEndConnect, hd, hc, sc, hse, hss, hok, htk, hxk, hg, hrd, q1, q2, q3, List.length_cons, Nat.zero_add, l_alive]
    · rw [if_neg h0] at hc sc
      have hse := same_end_is hi
      simp (disch := omega) only [decide_true, decide_false, decide_eq_true, decide_eq_false, if_pos, if_neg, wr, cond_true, cond_false, Bool.not_true, Bool.not_false, Bool.and_true, Bool.true_and, Bool.and_false, Bool.false_and, Bool.or_true, Bool.true_or, Bool.or_false, Bool.false_or, Option.bind_some, Int.toNat_natCast, Bool.and_self, Bool.or_self, Bool.cond_self, reduceIte, inR_eq, big_eq, beq_self_eq_true, List.nil_append, List.append_nil, List.length_nil, List.length_append, F_laws_FnEndConnect, hd, hc, sc, hse, same_none, hok, List.length_nil, Int.natCast_zero, l_alive]
end Go.VI.EwcVi
namespace Go.VI.EwcVi
open Go Go.RowKit
theorem pure_FnEndClose (l : List Int) (_ : l.length ≤ maxLen) (h2 : ∀ n ∈ l, 0 ≤ n ∧ n ≤ 255) : F_laws_FnEndClose l = some ((true, ()), ()) := pure0_FnEndClose l h2
theorem pure_FnEndConnect (l : List Int) (_ : l.length ≤ maxLen) (h2 : ∀ n ∈ l, 0 ≤ n ∧ n ≤ 255) : F_laws_FnEndConnect l = some ((true, ()), ()) := pure0_FnEndConnect l h2
end Go.VI.EwcVi
