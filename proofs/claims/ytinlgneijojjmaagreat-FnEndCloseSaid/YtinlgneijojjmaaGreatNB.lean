/- The reference's functions of ends come to the clean ones. -/
import Derived.Test.YtinlgneijojjmaaGreatNA
import Derived.Test.YtinlgneijojjmaaGreatF
set_option linter.unusedVariables false
set_option linter.unusedSimpArgs false
namespace Go.VI.EwcVi
open Go Go.VI Go.VI.Ns

theorem s_l1In (a lo hi : Int) : F_spec_l1In a lo hi = inn a lo hi := by
  unfold F_spec_l1In inn; rw [Bool.cond_false_right]

theorem s_MouthOk_l (m : Mo) (h1 : 0 ≤ m.heard) (h2 : m.heard ≤ 1000000) (h3 : 0 ≤ m.sent) (h4 : m.sent ≤ 1000) : ∀ (suf pre : List (Int × Int)) (n : Nat) (k last : Int), m.early = pre ++ suf → suf.length < n → pre.length + suf.length ≤ 1000 → k = pre.length →
    ((pre = [] ∧ last = m.heard) ∨ ∃ p y, pre = p ++ [y] ∧ last = y.2 ∧ m.heard ≤ y.2) → L_spec_MouthOk_4 n ((), k, m.e, ()) = some ((earlyOk (m.heard + m.sent) last suf, ()), ())
  | [], pre, 0, k, last, he, hn, hl, hk, hp => by simp at hn
  | [], pre, n + 1, k, last, he, hn, hl, hk, hp => by
    have hlen : m.early.length = pre.length := by rw [he]; simp
    simp (disch := omega) only [decide_true, decide_false, decide_eq_true, decide_eq_false, if_pos, if_neg, wr, cond_true, cond_false, Bool.not_true, Bool.not_false, Bool.and_true, Bool.true_and, Bool.and_false, Bool.false_and, Bool.or_true, Bool.true_or, Bool.or_false, Bool.false_or, Option.bind_some, Int.toNat_natCast, Bool.and_self, Bool.or_self, Bool.cond_self, reduceIte, inR_eq, big_eq, beq_self_eq_true, List.nil_append, List.append_nil, List.length_nil, List.length_append, L_spec_MouthOk_4, earlyOk]
  | x :: suf, pre, 0, k, last, he, hn, hl, hk, hp => by simp at hn
  | x :: suf, pre, n + 1, k, last, he, hn, hl, hk, hp => by
    have hlen : m.early.length = pre.length + (suf.length + 1) := by rw [he]; simp
    simp only [List.length_cons] at hl hn
    have ih := s_MouthOk_l m h1 h2 h3 h4 suf (pre ++ [x]) n (k + 1) x.2 (by simp [he]) (by omega) (by simp; omega) (by simp; omega)
    have hx : rdI (0, 0) m.early k.toNat = x := by rw [he, hk, Int.toNat_natCast]; exact rd_app _ _ _ _
    have hy : ∀ p y, pre = p ++ [y] → rdI (0, 0) m.early (k - 1).toNat = y ∧ 1 ≤ k := by
      intro p y hp
      have hkk : k = p.length + 1 := by rw [hk, hp]; simp
      refine ⟨?_, by omega⟩
      rw [he, hp, show (k - 1).toNat = p.length by omega, List.append_assoc]; exact rd_app _ _ _ _
    by_cases hc : last < x.1 ∧ x.1 < x.2 ∧ x.2 ≤ m.heard + m.sent
    · obtain ⟨q1, q2, q3⟩ := hc
      have ih2 := ih (.inr ⟨pre, x, rfl, rfl, by rcases hp with ⟨_, h⟩ | ⟨_, _, _, h, _⟩ <;> omega⟩)
      rcases hp with ⟨h, h'⟩ | ⟨p, y, h, h', h''⟩
      · subst h; simp only [List.length_nil] at hk; simp (disch := omega) only [decide_true, decide_false, decide_eq_true, decide_eq_false, if_pos, if_neg, wr, cond_true, cond_false, Bool.not_true, Bool.not_false, Bool.and_true, Bool.true_and, Bool.and_false, Bool.false_and, Bool.or_true, Bool.true_or, Bool.or_false, Bool.false_or, Option.bind_some, Int.toNat_natCast, Bool.and_self, Bool.or_self, Bool.cond_self, reduceIte, inR_eq, big_eq, beq_self_eq_true, List.nil_append, List.append_nil, List.length_nil, List.length_append, earlyOk, ih2, L_spec_MouthOk_4, hx]
      · obtain ⟨g1, g2⟩ := hy p y h
        simp (disch := omega) only [decide_true, decide_false, decide_eq_true, decide_eq_false, if_pos, if_neg, wr, cond_true, cond_false, Bool.not_true, Bool.not_false, Bool.and_true, Bool.true_and, Bool.and_false, Bool.false_and, Bool.or_true, Bool.true_or, Bool.or_false, Bool.false_or, Option.bind_some, Int.toNat_natCast, Bool.and_self, Bool.or_self, Bool.cond_self, reduceIte, inR_eq, big_eq, beq_self_eq_true, List.nil_append, List.append_nil, List.length_nil, List.length_append, earlyOk, ih2, L_spec_MouthOk_4, hx, g1]
    · have e : earlyOk (m.heard + m.sent) last (x :: suf) = false := by
        simp only [earlyOk]
        by_cases a : last < x.1
        · by_cases b : x.1 < x.2
          · have : ¬ x.2 ≤ m.heard + m.sent := fun h => hc ⟨a, b, h⟩
            simp (disch := omega) only [decide_true, decide_false, decide_eq_true, decide_eq_false, if_pos, if_neg, wr, cond_true, cond_false, Bool.not_true, Bool.not_false, Bool.and_true, Bool.true_and, Bool.and_false, Bool.false_and, Bool.or_true, Bool.true_or, Bool.or_false, Bool.false_or, Option.bind_some, Int.toNat_natCast, Bool.and_self, Bool.or_self, Bool.cond_self, reduceIte, inR_eq, big_eq, beq_self_eq_true, List.nil_append, List.append_nil, List.length_nil, List.length_append]
          · simp (disch := omega) only [decide_true, decide_false, decide_eq_true, decide_eq_false, if_pos, if_neg, wr, cond_true, cond_false, Bool.not_true, Bool.not_false, Bool.and_true, Bool.true_and, Bool.and_false, Bool.false_and, Bool.or_true, Bool.true_or, Bool.or_false, Bool.false_or, Option.bind_some, Int.toNat_natCast, Bool.and_self, Bool.or_self, Bool.cond_self, reduceIte, inR_eq, big_eq, beq_self_eq_true, List.nil_append, List.append_nil, List.length_nil, List.length_append]
        · simp (disch := omega) only [decide_true, decide_false, decide_eq_true, decide_eq_false, if_pos, if_neg, wr, cond_true, cond_false, Bool.not_true, Bool.not_false, Bool.and_true, Bool.true_and, Bool.and_false, Bool.false_and, Bool.or_true, Bool.true_or, Bool.or_false, Bool.false_or, Option.bind_some, Int.toNat_natCast, Bool.and_self, Bool.or_self, Bool.cond_self, reduceIte, inR_eq, big_eq, beq_self_eq_true, List.nil_append, List.append_nil, List.length_nil, List.length_append]
      rw [e]
      rcases hp with ⟨h, h'⟩ | ⟨p, y, h, h', h''⟩
      · subst h; simp only [List.length_nil] at hk
        by_cases a : last < x.1
        · by_cases b : x.1 < x.2
          · have : ¬ x.2 ≤ m.heard + m.sent := fun h => hc ⟨a, b, h⟩
            simp (disch := omega) only [decide_true, decide_false, decide_eq_true, decide_eq_false, if_pos, if_neg, wr, cond_true, cond_false, Bool.not_true, Bool.not_false, Bool.and_true, Bool.true_and, Bool.and_false, Bool.false_and, Bool.or_true, Bool.true_or, Bool.or_false, Bool.false_or, Option.bind_some, Int.toNat_natCast, Bool.and_self, Bool.or_self, Bool.cond_self, reduceIte, inR_eq, big_eq, beq_self_eq_true, List.nil_append, List.append_nil, List.length_nil, List.length_append, L_spec_MouthOk_4, hx]
          · simp (disch := omega) only [decide_true, decide_false, decide_eq_true, decide_eq_false, if_pos, if_neg, wr, cond_true, cond_false, Bool.not_true, Bool.not_false, Bool.and_true, Bool.true_and, Bool.and_false, Bool.false_and, Bool.or_true, Bool.true_or, Bool.or_false, Bool.false_or, Option.bind_some, Int.toNat_natCast, Bool.and_self, Bool.or_self, Bool.cond_self, reduceIte, inR_eq, big_eq, beq_self_eq_true, List.nil_append, List.append_nil, List.length_nil, List.length_append, L_spec_MouthOk_4, hx]
        · simp (disch := omega) only [decide_true, decide_false, decide_eq_true, decide_eq_false, if_pos, if_neg, wr, cond_true, cond_false, Bool.not_true, Bool.not_false, Bool.and_true, Bool.true_and, Bool.and_false, Bool.false_and, Bool.or_true, Bool.true_or, Bool.or_false, Bool.false_or, Option.bind_some, Int.toNat_natCast, Bool.and_self, Bool.or_self, Bool.cond_self, reduceIte, inR_eq, big_eq, beq_self_eq_true, List.nil_append, List.append_nil, List.length_nil, List.length_append, L_spec_MouthOk_4, hx]
      · obtain ⟨g1, g2⟩ := hy p y h
        by_cases a1 : x.1 ≤ m.heard <;> by_cases a2 : x.2 ≤ x.1 <;> by_cases a3 : m.heard + m.sent < x.2 <;> by_cases a4 : x.1 ≤ y.2 <;> first | (exfalso; omega) | simp (disch := omega) only [decide_true, decide_false, decide_eq_true, decide_eq_false, if_pos, if_neg, wr, cond_true, cond_false, Bool.not_true, Bool.not_false, Bool.and_true, Bool.true_and, Bool.and_false, Bool.false_and, Bool.or_true, Bool.true_or, Bool.or_false, Bool.false_or, Option.bind_some, Int.toNat_natCast, Bool.and_self, Bool.or_self, Bool.cond_self, reduceIte, inR_eq, big_eq, beq_self_eq_true, List.nil_append, List.append_nil, List.length_nil, List.length_append, L_spec_MouthOk_4, hx, g1]


theorem s_MouthOk (m : Mo) : F_spec_MouthOk m.e = some ((m.ok, ()), ()) := by
  have hc : (!inn m.heard 0 1000000 || decide (32 < (m.keep.length : Int)) || !inn m.sent 0 m.keep.length || !inn m.room 0 255 || decide (2 < (m.early.length : Int))) =
      !(inn m.heard 0 1000000 && decide (m.keep.length ≤ 32) && inn m.sent 0 m.keep.length && inn m.room 0 255 && decide (m.early.length ≤ 2)) := by
    rw [Bool.eq_iff_iff]; simp [inn]; omega
  simp only [F_spec_MouthOk, s_l1In, Mo.ok, Bool.cond_true_left, hc]
  cases h : (inn m.heard 0 1000000 && decide (m.keep.length ≤ 32) && inn m.sent 0 m.keep.length && inn m.room 0 255 && decide (m.early.length ≤ 2)) with
  | true =>
    simp only [Bool.and_eq_true, inn_iff, decide_eq_true_eq] at h
    obtain ⟨⟨⟨⟨h1, h2⟩, h3⟩, h4⟩, h5⟩ := h
    rw [s_MouthOk_l m h1.1 h1.2 h3.1 (by omega) m.early [] fuel 0 m.heard rfl (by rw [fuel_eq]; omega) (by simp; omega) rfl (.inl ⟨rfl, rfl⟩)]
    rfl
  | false => rfl

/-- one more early byte is in order -/
theorem s_EarOk_l (m : Ea) (h1 : 0 ≤ m.next) (h2 : m.next ≤ 1000000) (h3 : 0 ≤ m.room) (h4 : m.room ≤ 1000) (h5 : (m.got.length : Int) ≤ m.room) : ∀ (suf pre : List (Int × Int)) (n : Nat) (k last : Int), m.far = pre ++ suf → suf.length < n → pre.length + suf.length ≤ 1000000000 → k = pre.length →
    ((pre = [] ∧ last = m.next) ∨ ∃ p y, pre = p ++ [y] ∧ last = y.1 ∧ m.next ≤ y.1) → L_spec_EarOk_4 n ((), k, m.e, ()) = some ((farOk (m.next + m.free) last suf, ()), ())
  | [], pre, 0, k, last, he, hn, hl, hk, hp => by simp at hn
  | [], pre, n + 1, k, last, he, hn, hl, hk, hp => by
    have hlen : m.far.length = pre.length := by rw [he]; simp
    simp (disch := omega) only [decide_true, decide_false, decide_eq_true, decide_eq_false, if_pos, if_neg, wr, cond_true, cond_false, Bool.not_true, Bool.not_false, Bool.and_true, Bool.true_and, Bool.and_false, Bool.false_and, Bool.or_true, Bool.true_or, Bool.or_false, Bool.false_or, Option.bind_some, Int.toNat_natCast, Bool.and_self, Bool.or_self, Bool.cond_self, reduceIte, inR_eq, big_eq, beq_self_eq_true, List.nil_append, List.append_nil, List.length_nil, List.length_append, L_spec_EarOk_4, farOk]
  | x :: suf, pre, 0, k, last, he, hn, hl, hk, hp => by simp at hn
  | x :: suf, pre, n + 1, k, last, he, hn, hl, hk, hp => by
    have hlen : m.far.length = pre.length + (suf.length + 1) := by rw [he]; simp
    simp only [List.length_cons] at hl hn
    have ih := s_EarOk_l m h1 h2 h3 h4 h5 suf (pre ++ [x]) n (k + 1) x.1 (by simp [he]) (by omega) (by simp; omega) (by simp; omega)
    have hx : rdI (0, 0) m.far k.toNat = x := by rw [he, hk, Int.toNat_natCast]; exact rd_app _ _ _ _
    have hy : ∀ p y, pre = p ++ [y] → rdI (0, 0) m.far (k - 1).toNat = y ∧ 1 ≤ k := by
      intro p y hp
      have hkk : k = p.length + 1 := by rw [hk, hp]; simp
      refine ⟨?_, by omega⟩
      rw [he, hp, show (k - 1).toNat = p.length by omega, List.append_assoc]; exact rd_app _ _ _ _
    have hfr : m.next + m.free = m.next + m.room - m.got.length := by unfold Ea.free; omega
    by_cases hc : last < x.1 ∧ x.1 < m.next + m.free
    · obtain ⟨q1, q2⟩ := hc
      rw [hfr] at q2
      have ih2 := ih (.inr ⟨pre, x, rfl, rfl, by rcases hp with ⟨_, h⟩ | ⟨_, _, _, h, _⟩ <;> omega⟩)
      rw [hfr] at ih2 ⊢
      rcases hp with ⟨h, h'⟩ | ⟨p, y, h, h', h''⟩
      · subst h; simp only [List.length_nil] at hk; simp (disch := omega) only [decide_true, decide_false, decide_eq_true, decide_eq_false, if_pos, if_neg, wr, cond_true, cond_false, Bool.not_true, Bool.not_false, Bool.and_true, Bool.true_and, Bool.and_false, Bool.false_and, Bool.or_true, Bool.true_or, Bool.or_false, Bool.false_or, Option.bind_some, Int.toNat_natCast, Bool.and_self, Bool.or_self, Bool.cond_self, reduceIte, inR_eq, big_eq, beq_self_eq_true, List.nil_append, List.append_nil, List.length_nil, List.length_append, farOk, ih2, L_spec_EarOk_4, hx]
      · obtain ⟨g1, g2⟩ := hy p y h
        simp (disch := omega) only [decide_true, decide_false, decide_eq_true, decide_eq_false, if_pos, if_neg, wr, cond_true, cond_false, Bool.not_true, Bool.not_false, Bool.and_true, Bool.true_and, Bool.and_false, Bool.false_and, Bool.or_true, Bool.true_or, Bool.or_false, Bool.false_or, Option.bind_some, Int.toNat_natCast, Bool.and_self, Bool.or_self, Bool.cond_self, reduceIte, inR_eq, big_eq, beq_self_eq_true, List.nil_append, List.append_nil, List.length_nil, List.length_append, farOk, ih2, L_spec_EarOk_4, hx, g1]
    · have e : farOk (m.next + m.free) last (x :: suf) = false := by
        simp only [farOk]
        by_cases a : last < x.1
        · have : ¬ x.1 < m.next + m.free := fun h => hc ⟨a, h⟩
          simp (disch := omega) only [decide_true, decide_false, decide_eq_true, decide_eq_false, if_pos, if_neg, wr, cond_true, cond_false, Bool.not_true, Bool.not_false, Bool.and_true, Bool.true_and, Bool.and_false, Bool.false_and, Bool.or_true, Bool.true_or, Bool.or_false, Bool.false_or, Option.bind_some, Int.toNat_natCast, Bool.and_self, Bool.or_self, Bool.cond_self, reduceIte, inR_eq, big_eq, beq_self_eq_true, List.nil_append, List.append_nil, List.length_nil, List.length_append]
        · simp (disch := omega) only [decide_true, decide_false, decide_eq_true, decide_eq_false, if_pos, if_neg, wr, cond_true, cond_false, Bool.not_true, Bool.not_false, Bool.and_true, Bool.true_and, Bool.and_false, Bool.false_and, Bool.or_true, Bool.true_or, Bool.or_false, Bool.false_or, Option.bind_some, Int.toNat_natCast, Bool.and_self, Bool.or_self, Bool.cond_self, reduceIte, inR_eq, big_eq, beq_self_eq_true, List.nil_append, List.append_nil, List.length_nil, List.length_append]
      rw [e]
      rw [hfr] at hc
      rcases hp with ⟨h, h'⟩ | ⟨p, y, h, h', h''⟩
      · subst h; simp only [List.length_nil] at hk
        by_cases a1 : x.1 ≤ m.next <;> by_cases a2 : m.next + m.room - m.got.length ≤ x.1 <;> first | (exfalso; omega) | simp (disch := omega) only [decide_true, decide_false, decide_eq_true, decide_eq_false, if_pos, if_neg, wr, cond_true, cond_false, Bool.not_true, Bool.not_false, Bool.and_true, Bool.true_and, Bool.and_false, Bool.false_and, Bool.or_true, Bool.true_or, Bool.or_false, Bool.false_or, Option.bind_some, Int.toNat_natCast, Bool.and_self, Bool.or_self, Bool.cond_self, reduceIte, inR_eq, big_eq, beq_self_eq_true, List.nil_append, List.append_nil, List.length_nil, List.length_append, L_spec_EarOk_4, hx]
      · obtain ⟨g1, g2⟩ := hy p y h
        by_cases a1 : x.1 ≤ m.next <;> by_cases a2 : m.next + m.room - m.got.length ≤ x.1 <;> by_cases a3 : x.1 ≤ y.1 <;> first | (exfalso; omega) | simp (disch := omega) only [decide_true, decide_false, decide_eq_true, decide_eq_false, if_pos, if_neg, wr, cond_true, cond_false, Bool.not_true, Bool.not_false, Bool.and_true, Bool.true_and, Bool.and_false, Bool.false_and, Bool.or_true, Bool.true_or, Bool.or_false, Bool.false_or, Option.bind_some, Int.toNat_natCast, Bool.and_self, Bool.or_self, Bool.cond_self, reduceIte, inR_eq, big_eq, beq_self_eq_true, List.nil_append, List.append_nil, List.length_nil, List.length_append, L_spec_EarOk_4, hx, g1]
theorem s_EarOk (m : Ea) (hb : m.far.length ≤ 1000000000) : F_spec_EarOk m.e = some ((m.ok, ()), ()) := by
  have hc : (!inn m.next 0 1000000 || !inn m.room 1 32 || decide (m.room < (m.got.length : Int))) = !(inn m.next 0 1000000 && inn m.room 1 32 && decide ((m.got.length : Int) ≤ m.room)) := by
    rw [Bool.eq_iff_iff]; simp [inn]
  simp only [F_spec_EarOk, s_l1In, Ea.ok, Bool.cond_true_left, hc]
  cases h : (inn m.next 0 1000000 && inn m.room 1 32 && decide ((m.got.length : Int) ≤ m.room)) with
  | true =>
    simp only [Bool.and_eq_true, inn_iff, decide_eq_true_eq] at h
    obtain ⟨⟨h1, h2⟩, h3⟩ := h
    rw [s_EarOk_l m h1.1 h1.2 (by omega) (by omega) h3 m.far [] fuel 0 m.next rfl (by rw [fuel_eq]; omega) (by simpa using hb) rfl (.inl ⟨rfl, rfl⟩)]
    rfl
  | false => rfl
theorem s_ClockOk (c : Ck) : F_spec_ClockOk c.e = c.ok := by
  simp only [F_spec_ClockOk, s_l1In, Ck.ok, Bool.cond_false_right]
theorem s_l15Open (e : Ed) (h : 0 ≤ e.out.sent ∧ e.out.sent ≤ e.out.keep.length) : F_spec_l15Open e.e = some ((e.opn, ()), ()) := by
  have hk : decide (e.out.keep ≠ []) = decide (0 < (e.out.keep.length : Int)) := by
    rw [Bool.eq_iff_iff]; simp; exact List.length_pos_iff.symm
  simp only [F_spec_l15Open, Ed.opn, hk]
  by_cases h2 : e.st = 2
  · simp (disch := omega) only [decide_true, decide_false, decide_eq_true, decide_eq_false, if_pos, if_neg, wr, cond_true, cond_false, Bool.not_true, Bool.not_false, Bool.and_true, Bool.true_and, Bool.and_false, Bool.false_and, Bool.or_true, Bool.true_or, Bool.or_false, Bool.false_or, Option.bind_some, Int.toNat_natCast, Bool.and_self, Bool.or_self, Bool.cond_self, reduceIte, inR_eq, big_eq, beq_self_eq_true, List.nil_append, List.append_nil, List.length_nil, List.length_append]
  · by_cases h3 : e.st = 3
    · simp (disch := omega) only [decide_true, decide_false, decide_eq_true, decide_eq_false, if_pos, if_neg, wr, cond_true, cond_false, Bool.not_true, Bool.not_false, Bool.and_true, Bool.true_and, Bool.and_false, Bool.false_and, Bool.or_true, Bool.true_or, Bool.or_false, Bool.false_or, Option.bind_some, Int.toNat_natCast, Bool.and_self, Bool.or_self, Bool.cond_self, reduceIte, inR_eq, big_eq, beq_self_eq_true, List.nil_append, List.append_nil, List.length_nil, List.length_append]
    · by_cases h4 : e.st = 4
      · by_cases a : 0 < e.out.sent <;> by_cases b : 0 < (e.out.keep.length : Int) <;> first | (exfalso; omega) | (cases e.ltold <;> cases e.lheard <;> simp (disch := omega) only [decide_true, decide_false, decide_eq_true, decide_eq_false, if_pos, if_neg, wr, cond_true, cond_false, Bool.not_true, Bool.not_false, Bool.and_true, Bool.true_and, Bool.and_false, Bool.false_and, Bool.or_true, Bool.true_or, Bool.or_false, Bool.false_or, Option.bind_some, Int.toNat_natCast, Bool.and_self, Bool.or_self, Bool.cond_self, reduceIte, inR_eq, big_eq, beq_self_eq_true, List.nil_append, List.append_nil, List.length_nil, List.length_append])
      · simp (disch := omega) only [decide_true, decide_false, decide_eq_true, decide_eq_false, if_pos, if_neg, wr, cond_true, cond_false, Bool.not_true, Bool.not_false, Bool.and_true, Bool.true_and, Bool.and_false, Bool.false_and, Bool.or_true, Bool.true_or, Bool.or_false, Bool.false_or, Option.bind_some, Int.toNat_natCast, Bool.and_self, Bool.or_self, Bool.cond_self, reduceIte, inR_eq, big_eq, beq_self_eq_true, List.nil_append, List.append_nil, List.length_nil, List.length_append]
theorem s_EndOk (e : Ed) (hb : e.ear.far.length ≤ 1000000000) : F_spec_EndOk e.e = some ((e.ok, ()), ()) := by
  simp only [F_spec_EndOk, s_l1In, s_MouthOk, s_EarOk e.ear hb, s_ClockOk, Option.bind_some, Bool.cond_true_left, Bool.cond_false_right, Ed.ok]
  cases a1 : inn e.st 0 5
  · rfl
  cases a2 : inn e.addr 0 65535
  · rfl
  cases a3 : inn e.paddr 0 65535
  · rfl
  cases a4 : inn e.n 1 255
  · rfl
  cases a5 : inn e.pn 0 255
  · rfl
  cases a6 : inn e.base 0 65535
  · rfl
  cases a7 : e.out.ok
  · rfl
  obtain ⟨b1, b2, b3, b4, b5, _⟩ := Mo.ok_sent a7
  simp only [inn_iff] at a6
  by_cases a8 : e.out.heard ≤ e.base
  · simp (disch := omega) only [decide_true, decide_false, decide_eq_true, decide_eq_false, if_pos, if_neg, wr, cond_true, cond_false, Bool.not_true, Bool.not_false, Bool.and_true, Bool.true_and, Bool.and_false, Bool.false_and, Bool.or_true, Bool.true_or, Bool.or_false, Bool.false_or, Option.bind_some, Int.toNat_natCast, Bool.and_self, Bool.or_self, Bool.cond_self, reduceIte, inR_eq, big_eq, beq_self_eq_true, List.nil_append, List.append_nil, List.length_nil, List.length_append]
  cases a9 : e.ear.ok
  · simp (disch := omega) only [decide_true, decide_false, decide_eq_true, decide_eq_false, if_pos, if_neg, wr, cond_true, cond_false, Bool.not_true, Bool.not_false, Bool.and_true, Bool.true_and, Bool.and_false, Bool.false_and, Bool.or_true, Bool.true_or, Bool.or_false, Bool.false_or, Option.bind_some, Int.toNat_natCast, Bool.and_self, Bool.or_self, Bool.cond_self, reduceIte, inR_eq, big_eq, beq_self_eq_true, List.nil_append, List.append_nil, List.length_nil, List.length_append]
  cases a10 : e.pulse.ok
  · simp (disch := omega) only [decide_true, decide_false, decide_eq_true, decide_eq_false, if_pos, if_neg, wr, cond_true, cond_false, Bool.not_true, Bool.not_false, Bool.and_true, Bool.true_and, Bool.and_false, Bool.false_and, Bool.or_true, Bool.true_or, Bool.or_false, Bool.false_or, Option.bind_some, Int.toNat_natCast, Bool.and_self, Bool.or_self, Bool.cond_self, reduceIte, inR_eq, big_eq, beq_self_eq_true, List.nil_append, List.append_nil, List.length_nil, List.length_append]
  cases a11 : inn e.due 0 1000000
  · simp (disch := omega) only [decide_true, decide_false, decide_eq_true, decide_eq_false, if_pos, if_neg, wr, cond_true, cond_false, Bool.not_true, Bool.not_false, Bool.and_true, Bool.true_and, Bool.and_false, Bool.false_and, Bool.or_true, Bool.true_or, Bool.or_false, Bool.false_or, Option.bind_some, Int.toNat_natCast, Bool.and_self, Bool.or_self, Bool.cond_self, reduceIte, inR_eq, big_eq, beq_self_eq_true, List.nil_append, List.append_nil, List.length_nil, List.length_append]
  cases a12 : inn e.tries 0 8
  · simp (disch := omega) only [decide_true, decide_false, decide_eq_true, decide_eq_false, if_pos, if_neg, wr, cond_true, cond_false, Bool.not_true, Bool.not_false, Bool.and_true, Bool.true_and, Bool.and_false, Bool.false_and, Bool.or_true, Bool.true_or, Bool.or_false, Bool.false_or, Option.bind_some, Int.toNat_natCast, Bool.and_self, Bool.or_self, Bool.cond_self, reduceIte, inR_eq, big_eq, beq_self_eq_true, List.nil_append, List.append_nil, List.length_nil, List.length_append]
  have c1 : (e.lheard && !e.ltold || e.ltold && (!e.closed || decide (e.out.sent < (e.out.keep.length : Int)) || decide (e.st < 4))) = !((!e.lheard || e.ltold) && (!e.ltold || (e.closed && decide (e.out.sent = e.out.keep.length) && decide (4 ≤ e.st)))) := by
    have d1 : decide (e.out.sent < (e.out.keep.length : Int)) = !decide (e.out.sent = e.out.keep.length) := by rw [Bool.eq_iff_iff]; simp; omega
    have d2 : decide (e.st < 4) = !decide (4 ≤ e.st) := by rw [Bool.eq_iff_iff]; simp
    rw [d1, d2]
    cases e.lheard <;> cases e.ltold <;> cases e.closed <;> simp
  rw [c1]
  cases a13 : (!e.lheard || e.ltold)
  · simp (disch := omega) only [decide_true, decide_false, decide_eq_true, decide_eq_false, if_pos, if_neg, wr, cond_true, cond_false, Bool.not_true, Bool.not_false, Bool.and_true, Bool.true_and, Bool.and_false, Bool.false_and, Bool.or_true, Bool.true_or, Bool.or_false, Bool.false_or, Option.bind_some, Int.toNat_natCast, Bool.and_self, Bool.or_self, Bool.cond_self, reduceIte, inR_eq, big_eq, beq_self_eq_true, List.nil_append, List.append_nil, List.length_nil, List.length_append]
  cases a14 : (!e.ltold || (e.closed && decide (e.out.sent = e.out.keep.length) && decide (4 ≤ e.st)))
  · simp (disch := omega) only [decide_true, decide_false, decide_eq_true, decide_eq_false, if_pos, if_neg, wr, cond_true, cond_false, Bool.not_true, Bool.not_false, Bool.and_true, Bool.true_and, Bool.and_false, Bool.false_and, Bool.or_true, Bool.true_or, Bool.or_false, Bool.false_or, Option.bind_some, Int.toNat_natCast, Bool.and_self, Bool.or_self, Bool.cond_self, reduceIte, inR_eq, big_eq, beq_self_eq_true, List.nil_append, List.append_nil, List.length_nil, List.length_append]
  have c2 : (decide (e.st < 4) && (decide (0 < e.out.sent) || !decide (e.out.heard = IntKind.i64.wrap (e.base + 1)) || !decide (e.plast = -1))) = !(decide (4 ≤ e.st) || (decide (e.out.sent = 0) && decide (e.out.heard = e.base + 1) && decide (e.plast = -1))) := by
    rw [wr (by omega) (by omega), Bool.eq_iff_iff]; simp; omega
  rw [c2]
  cases a15 : (decide (4 ≤ e.st) || (decide (e.out.sent = 0) && decide (e.out.heard = e.base + 1) && decide (e.plast = -1)))
  · simp (disch := omega) only [decide_true, decide_false, decide_eq_true, decide_eq_false, if_pos, if_neg, wr, cond_true, cond_false, Bool.not_true, Bool.not_false, Bool.and_true, Bool.true_and, Bool.and_false, Bool.false_and, Bool.or_true, Bool.true_or, Bool.or_false, Bool.false_or, Option.bind_some, Int.toNat_natCast, Bool.and_self, Bool.or_self, Bool.cond_self, reduceIte, inR_eq, big_eq, beq_self_eq_true, List.nil_append, List.append_nil, List.length_nil, List.length_append]
  cases a16 : (decide (0 < e.pn) == decide (2 ≤ e.st))
  · simp (disch := omega) only [decide_true, decide_false, decide_eq_true, decide_eq_false, if_pos, if_neg, wr, cond_true, cond_false, Bool.not_true, Bool.not_false, Bool.and_true, Bool.true_and, Bool.and_false, Bool.false_and, Bool.or_true, Bool.true_or, Bool.or_false, Bool.false_or, Option.bind_some, Int.toNat_natCast, Bool.and_self, Bool.or_self, Bool.cond_self, reduceIte, inR_eq, big_eq, beq_self_eq_true, List.nil_append, List.append_nil, List.length_nil, List.length_append]
  rw [s_l15Open e ⟨b1, b2⟩]
  simp only [Option.bind_some]
  have c3 : (!e.opn && (decide (0 < e.due) || decide (0 < e.tries) && !decide (e.st = 5))) = !(e.opn || (decide (e.due = 0) && (decide (e.tries = 0) || decide (e.st = 5)))) := by
    simp only [inn_iff] at a11 a12
    have d1 : decide (0 < e.due) = !decide (e.due = 0) := by rw [Bool.eq_iff_iff]; simp; omega
    have d2 : decide (0 < e.tries) = !decide (e.tries = 0) := by rw [Bool.eq_iff_iff]; simp; omega
    rw [d1, d2]
    cases e.opn <;> cases decide (e.due = 0) <;> cases decide (e.tries = 0) <;> cases decide (e.st = 5) <;> rfl
  rw [c3]
  cases a17 : (e.opn || (decide (e.due = 0) && (decide (e.tries = 0) || decide (e.st = 5))))
  · simp (disch := omega) only [decide_true, decide_false, decide_eq_true, decide_eq_false, if_pos, if_neg, wr, cond_true, cond_false, Bool.not_true, Bool.not_false, Bool.and_true, Bool.true_and, Bool.and_false, Bool.false_and, Bool.or_true, Bool.true_or, Bool.or_false, Bool.false_or, Option.bind_some, Int.toNat_natCast, Bool.and_self, Bool.or_self, Bool.cond_self, reduceIte, inR_eq, big_eq, beq_self_eq_true, List.nil_append, List.append_nil, List.length_nil, List.length_append]
  by_cases a18 : e.plast = -1
  · simp (disch := omega) only [decide_true, decide_false, decide_eq_true, decide_eq_false, if_pos, if_neg, wr, cond_true, cond_false, Bool.not_true, Bool.not_false, Bool.and_true, Bool.true_and, Bool.and_false, Bool.false_and, Bool.or_true, Bool.true_or, Bool.or_false, Bool.false_or, Option.bind_some, Int.toNat_natCast, Bool.and_self, Bool.or_self, Bool.cond_self, reduceIte, inR_eq, big_eq, beq_self_eq_true, List.nil_append, List.append_nil, List.length_nil, List.length_append]
  have d0 : decide (e.plast = -1) = false := decide_eq_false a18
  rcases List.eq_nil_or_concat e.ear.far with hf | ⟨l, x, hf⟩
  · simp (disch := omega) only [decide_true, decide_false, decide_eq_true, decide_eq_false, if_pos, if_neg, wr, cond_true, cond_false, Bool.not_true, Bool.not_false, Bool.and_true, Bool.true_and, Bool.and_false, Bool.false_and, Bool.or_true, Bool.true_or, Bool.or_false, Bool.false_or, Option.bind_some, Int.toNat_natCast, Bool.and_self, Bool.or_self, Bool.cond_self, reduceIte, inR_eq, big_eq, beq_self_eq_true, List.nil_append, List.append_nil, List.length_nil, List.length_append, hf, d0, List.all_nil]
  · rw [List.concat_eq_append] at hf
    have hfo : farOk (e.ear.next + e.ear.free) e.ear.next (l ++ [x]) = true := by
      simp only [Ea.ok, Bool.and_eq_true] at a9
      rw [← hf]; exact a9.2
    have hlen : e.ear.far.length = l.length + 1 := by rw [hf]; simp
    have hx : rdI (0, 0) e.ear.far ((e.ear.far.length : Int) - 1).toNat = x := by
      rw [hlen, show (((l.length + 1 : Nat) : Int) - 1).toNat = l.length by omega, hf]; exact rd_app _ _ _ _
    have hall : (e.ear.far.all fun y => decide (y.1 < e.plast)) = decide (x.1 < e.plast) := by rw [hf]; exact farOk_all hfo
    rw [hall]
    by_cases g : x.1 < e.plast
    · simp (disch := omega) only [decide_true, decide_false, decide_eq_true, decide_eq_false, if_pos, if_neg, wr, cond_true, cond_false, Bool.not_true, Bool.not_false, Bool.and_true, Bool.true_and, Bool.and_false, Bool.false_and, Bool.or_true, Bool.true_or, Bool.or_false, Bool.false_or, Option.bind_some, Int.toNat_natCast, Bool.and_self, Bool.or_self, Bool.cond_self, reduceIte, inR_eq, big_eq, beq_self_eq_true, List.nil_append, List.append_nil, List.length_nil, List.length_append, hx, d0]
    · simp (disch := omega) only [decide_true, decide_false, decide_eq_true, decide_eq_false, if_pos, if_neg, wr, cond_true, cond_false, Bool.not_true, Bool.not_false, Bool.and_true, Bool.true_and, Bool.and_false, Bool.false_and, Bool.or_true, Bool.true_or, Bool.or_false, Bool.false_or, Option.bind_some, Int.toNat_natCast, Bool.and_self, Bool.or_self, Bool.cond_self, reduceIte, inR_eq, big_eq, beq_self_eq_true, List.nil_append, List.append_nil, List.length_nil, List.length_append, hx, d0]

theorem s_ClockNew (a : Int) : F_spec_ClockNew a = some (((⟨0, 0, 24⟩ : Ck).e, ()), ()) := rfl
theorem s_l13Copy (m : Mo) (h1 : m.keep.length ≤ 1073741824) (h2 : m.early.length ≤ 1073741824) : F_spec_l13Copy m.e = some ((m.e, ()), ()) := by
  simp (disch := omega) only [decide_true, decide_false, decide_eq_true, decide_eq_false, if_pos, if_neg, wr, cond_true, cond_false, Bool.not_true, Bool.not_false, Bool.and_true, Bool.true_and, Bool.and_false, Bool.false_and, Bool.or_true, Bool.true_or, Bool.or_false, Bool.false_or, Option.bind_some, Int.toNat_natCast, Bool.and_self, Bool.or_self, Bool.cond_self, reduceIte, inR_eq, big_eq, beq_self_eq_true, List.nil_append, List.append_nil, List.length_nil, List.length_append, F_spec_l13Copy, Nat.zero_add]
/-- what a copy asks for -/
def Small (e : Ed) : Prop := e.out.keep.length ≤ 1000000 ∧ e.out.early.length ≤ 1000000 ∧ e.ear.got.length ≤ 1000000 ∧ e.ear.far.length ≤ 1000000
theorem s_l15Copy (e : Ed) (h : Small e) : F_spec_l15Copy e.e = some ((e.e, ()), ()) := by
  obtain ⟨h1, h2, h3, h4⟩ := h
  simp (disch := omega) only [decide_true, decide_false, decide_eq_true, decide_eq_false, if_pos, if_neg, wr, cond_true, cond_false, Bool.not_true, Bool.not_false, Bool.and_true, Bool.true_and, Bool.and_false, Bool.false_and, Bool.or_true, Bool.true_or, Bool.or_false, Bool.false_or, Option.bind_some, Int.toNat_natCast, Bool.and_self, Bool.or_self, Bool.cond_self, reduceIte, inR_eq, big_eq, beq_self_eq_true, List.nil_append, List.append_nil, List.length_nil, List.length_append, F_spec_l15Copy, s_l13Copy e.out (by omega) (by omega), Nat.zero_add]
theorem s_SeqOf (p : Int) : F_spec_SeqOf p = some ((seqOf p, ()), ()) := by
  have h := tmod_seq p
  have hb := tmod_bd p
  by_cases hn : p.tmod 65536 < 0
  · rw [if_pos hn] at h
    simp (disch := omega) only [decide_true, decide_false, decide_eq_true, decide_eq_false, if_pos, if_neg, wr, cond_true, cond_false, Bool.not_true, Bool.not_false, Bool.and_true, Bool.true_and, Bool.and_false, Bool.false_and, Bool.or_true, Bool.true_or, Bool.or_false, Bool.false_or, Option.bind_some, Int.toNat_natCast, Bool.and_self, Bool.or_self, Bool.cond_self, reduceIte, inR_eq, big_eq, beq_self_eq_true, List.nil_append, List.append_nil, List.length_nil, List.length_append, F_spec_SeqOf, h]
  · rw [if_neg hn] at h
    simp (disch := omega) only [decide_true, decide_false, decide_eq_true, decide_eq_false, if_pos, if_neg, wr, cond_true, cond_false, Bool.not_true, Bool.not_false, Bool.and_true, Bool.true_and, Bool.and_false, Bool.false_and, Bool.or_true, Bool.true_or, Bool.or_false, Bool.false_or, Option.bind_some, Int.toNat_natCast, Bool.and_self, Bool.or_self, Bool.cond_self, reduceIte, inR_eq, big_eq, beq_self_eq_true, List.nil_append, List.append_nil, List.length_nil, List.length_append, F_spec_SeqOf, h]
theorem s_l15Wait (e : Ed) (h1 : 0 ≤ e.ear.next) (h2 : e.ear.next ≤ 1000000000) : F_spec_l15Wait e.e = some ((e.wait, ()), ()) := by
  by_cases h : e.plast = e.ear.next
  · simp (disch := omega) only [decide_true, decide_false, decide_eq_true, decide_eq_false, if_pos, if_neg, wr, cond_true, cond_false, Bool.not_true, Bool.not_false, Bool.and_true, Bool.true_and, Bool.and_false, Bool.false_and, Bool.or_true, Bool.true_or, Bool.or_false, Bool.false_or, Option.bind_some, Int.toNat_natCast, Bool.and_self, Bool.or_self, Bool.cond_self, reduceIte, inR_eq, big_eq, beq_self_eq_true, List.nil_append, List.append_nil, List.length_nil, List.length_append, F_spec_l15Wait, Ed.wait]
  · simp (disch := omega) only [decide_true, decide_false, decide_eq_true, decide_eq_false, if_pos, if_neg, wr, cond_true, cond_false, Bool.not_true, Bool.not_false, Bool.and_true, Bool.true_and, Bool.and_false, Bool.false_and, Bool.or_true, Bool.true_or, Bool.or_false, Bool.false_or, Option.bind_some, Int.toNat_natCast, Bool.and_self, Bool.or_self, Bool.cond_self, reduceIte, inR_eq, big_eq, beq_self_eq_true, List.nil_append, List.append_nil, List.length_nil, List.length_append, F_spec_l15Wait, Ed.wait]
theorem s_EarFree (e : Ea) (h : e.ok = true) (hf : e.far.length ≤ 1000000000) : F_spec_EarFree e.e = some ((e.free, ()), ()) := by
  have h' := h
  simp only [Ea.ok, Bool.and_eq_true, inn_iff, decide_eq_true_eq] at h'
  obtain ⟨⟨⟨h1, h2⟩, h3⟩, h4⟩ := h'
  simp (disch := omega) only [decide_true, decide_false, decide_eq_true, decide_eq_false, if_pos, if_neg, wr, cond_true, cond_false, Bool.not_true, Bool.not_false, Bool.and_true, Bool.true_and, Bool.and_false, Bool.false_and, Bool.or_true, Bool.true_or, Bool.or_false, Bool.false_or, Option.bind_some, Int.toNat_natCast, Bool.and_self, Bool.or_self, Bool.cond_self, reduceIte, inR_eq, big_eq, beq_self_eq_true, List.nil_append, List.append_nil, List.length_nil, List.length_append, F_spec_EarFree, s_EarOk e hf, h, Ea.free]
theorem s_EarRanges_l (m : Ea) (hm : 0 ≤ m.next) (hmm : m.next ≤ 1000000) : ∀ (suf pre out : List (Int × Int)) (n : Nat) (k : Int), m.far = pre ++ suf → (∀ x ∈ suf, 0 ≤ x.1 ∧ x.1 ≤ 2000000) → suf.length < n → pre.length + suf.length ≤ 1000000000 → k = pre.length → out.length ≤ 2 → (∀ r ∈ out, -1000000000000 ≤ r.2 ∧ r.2 + suf.length ≤ 1000000000000) →
    L_spec_EarRanges_5 n ((), out, k, m.e, ()) = some ((rngS out suf, ()), ())
  | [], pre, out, 0, k, he, _, hn, hl, hk, ho, hr => by simp at hn
  | [], pre, out, n + 1, k, he, _, hn, hl, hk, ho, hr => by
    have hlen : m.far.length = pre.length := by rw [he]; simp
    simp (disch := omega) only [decide_true, decide_false, decide_eq_true, decide_eq_false, if_pos, if_neg, wr, cond_true, cond_false, Bool.not_true, Bool.not_false, Bool.and_true, Bool.true_and, Bool.and_false, Bool.false_and, Bool.or_true, Bool.true_or, Bool.or_false, Bool.false_or, Option.bind_some, Int.toNat_natCast, Bool.and_self, Bool.or_self, Bool.cond_self, reduceIte, inR_eq, big_eq, beq_self_eq_true, List.nil_append, List.append_nil, List.length_nil, List.length_append, L_spec_EarRanges_5, rngS]
  | x :: suf, pre, out, 0, k, he, _, hn, hl, hk, ho, hr => by simp at hn
  | x :: suf, pre, out, n + 1, k, he, hx0, hn, hl, hk, ho, hr => by
    have hlen : m.far.length = pre.length + (suf.length + 1) := by rw [he]; simp
    simp only [List.length_cons] at hl hn
    have hx : rdI (0, 0) m.far k.toNat = x := by rw [he, hk, Int.toNat_natCast]; exact rd_app _ _ _ _
    obtain ⟨hx1, hx2⟩ := hx0 x (by simp)
    have ih := fun out ho hr => s_EarRanges_l m hm hmm suf (pre ++ [x]) out n (k + 1) (by simp [he]) (fun y hy => hx0 y (by simp [hy])) (by omega) (by simp; omega) (by simp; omega) ho hr
    rcases List.eq_nil_or_concat out with hout | ⟨o, r, hout⟩
    · subst hout
      have ih := ih [(x.1, x.1 + 1)] (by simp) (by simp; omega)
      have e : rngS [] (x :: suf) = rngS [(x.1, x.1 + 1)] suf := rfl
      simp (disch := omega) only [decide_true, decide_false, decide_eq_true, decide_eq_false, if_pos, if_neg, wr, cond_true, cond_false, Bool.not_true, Bool.not_false, Bool.and_true, Bool.true_and, Bool.and_false, Bool.false_and, Bool.or_true, Bool.true_or, Bool.or_false, Bool.false_or, Option.bind_some, Int.toNat_natCast, Bool.and_self, Bool.or_self, Bool.cond_self, reduceIte, inR_eq, big_eq, beq_self_eq_true, List.nil_append, List.append_nil, List.length_nil, List.length_append, L_spec_EarRanges_5, hx, e, ih, List.length_cons, Int.natCast_zero, Nat.zero_add]
    · rw [List.concat_eq_append] at hout
      subst hout
      have hol : (o ++ [r]).length = o.length + 1 := by simp
      obtain ⟨hr1, hr2⟩ := hr r (by simp)
      simp only [List.length_cons] at hr2
      have hrd : rdI (0, 0) (o ++ [r]) (((o.length + 1 : Nat) : Int) - 1).toNat = r := by rw [show (((o.length + 1 : Nat) : Int) - 1).toNat = o.length by omega]; exact rd_app _ _ _ _
      rw [hol] at ho
      by_cases hc : r.2 = x.1
      · have e : rngS (o ++ [r]) (x :: suf) = rngS (o ++ [(r.1, r.2 + 1)]) suf := by simp [rngS, rngStep, hc]
        have hset : (o ++ [r]).set (((o.length + 1 : Nat) : Int) - 1).toNat (r.1, r.2 + 1) = o ++ [(r.1, r.2 + 1)] := by
          rw [show (((o.length + 1 : Nat) : Int) - 1).toNat = o.length by omega]; simp
        have ih := ih (o ++ [(r.1, r.2 + 1)]) (by simpa using ho) (fun z hz => by
          rcases List.mem_append.1 hz with hz | hz
          · have := hr z (by simp [hz]); simp only [List.length_cons] at this; omega
          · simp at hz; subst hz; simp only; omega)
        simp (disch := omega) only [decide_true, decide_false, decide_eq_true, decide_eq_false, if_pos, if_neg, wr, cond_true, cond_false, Bool.not_true, Bool.not_false, Bool.and_true, Bool.true_and, Bool.and_false, Bool.false_and, Bool.or_true, Bool.true_or, Bool.or_false, Bool.false_or, Option.bind_some, Int.toNat_natCast, Bool.and_self, Bool.or_self, Bool.cond_self, reduceIte, inR_eq, big_eq, beq_self_eq_true, List.nil_append, List.append_nil, List.length_nil, List.length_append, L_spec_EarRanges_5, hx, hol, hrd, hset, e, ih]
      · by_cases h2 : o.length = 0
        · have e : rngS (o ++ [r]) (x :: suf) = rngS (o ++ [r] ++ [(x.1, x.1 + 1)]) suf := by simp [rngS, rngStep, hc, h2]
          have ih := ih (o ++ [r] ++ [(x.1, x.1 + 1)]) (by simp only [List.length_append, List.length_singleton]; omega) (fun z hz => by
            rcases List.mem_append.1 hz with hz | hz
            · have := hr z hz; simp only [List.length_cons] at this; omega
            · simp at hz; subst hz; simp only; omega)
          simp (disch := omega) only [decide_true, decide_false, decide_eq_true, decide_eq_false, if_pos, if_neg, wr, cond_true, cond_false, Bool.not_true, Bool.not_false, Bool.and_true, Bool.true_and, Bool.and_false, Bool.false_and, Bool.or_true, Bool.true_or, Bool.or_false, Bool.false_or, Option.bind_some, Int.toNat_natCast, Bool.and_self, Bool.or_self, Bool.cond_self, reduceIte, inR_eq, big_eq, beq_self_eq_true, List.nil_append, List.append_nil, List.length_nil, List.length_append, L_spec_EarRanges_5, hx, hol, hrd, e, ih, List.length_cons, List.length_nil]
        · have hno : ¬ (o ++ [r]).length < 2 := by rw [hol]; omega
          have e : rngS (o ++ [r]) (x :: suf) = rngS (o ++ [r]) suf := by simp only [rngS, rngStep, List.getLast?_append, List.getLast?_singleton, Option.some_or, if_neg hc, if_neg hno]
          have ih := ih (o ++ [r]) (by omega) (fun z hz => by have := hr z hz; simp only [List.length_cons] at this; omega)
          simp (disch := omega) only [decide_true, decide_false, decide_eq_true, decide_eq_false, if_pos, if_neg, wr, cond_true, cond_false, Bool.not_true, Bool.not_false, Bool.and_true, Bool.true_and, Bool.and_false, Bool.false_and, Bool.or_true, Bool.true_or, Bool.or_false, Bool.false_or, Option.bind_some, Int.toNat_natCast, Bool.and_self, Bool.or_self, Bool.cond_self, reduceIte, inR_eq, big_eq, beq_self_eq_true, List.nil_append, List.append_nil, List.length_nil, List.length_append, L_spec_EarRanges_5, hx, hol, hrd, e, ih]
/-- an ear's own bounds -/
theorem Ea.ok_bd {e : Ea} (h : e.ok = true) : 0 ≤ e.next ∧ e.next ≤ 1000000 ∧ 1 ≤ e.room ∧ e.room ≤ 32 ∧ (e.got.length : Int) ≤ e.room ∧ farOk (e.next + e.free) e.next e.far = true ∧ ∀ x ∈ e.far, e.next < x.1 ∧ x.1 < e.next + e.free ∧ x.1 ≤ 1000032 := by
  simp only [Ea.ok, Bool.and_eq_true, inn_iff, decide_eq_true_eq] at h
  obtain ⟨⟨⟨h1, h2⟩, h3⟩, h4⟩ := h
  refine ⟨h1.1, h1.2, h2.1, h2.2, h3, h4, fun x hx => ?_⟩
  have := farOk_mem h4 x hx
  unfold Ea.free at *
  omega
/-- early bytes in order are few -/
theorem farOk_len : ∀ {to last : Int} {l : List (Int × Int)}, farOk to last l = true → (l.length : Int) ≤ max 0 (to - last - 1)
  | to, last, [], _ => by simp; omega
  | to, last, x :: l, h => by
    simp only [farOk, Bool.and_eq_true, decide_eq_true_eq] at h
    have := farOk_len h.2
    simp only [List.length_cons]
    omega
theorem Ea.ok_far {e : Ea} (h : e.ok = true) : e.far.length ≤ 32 := by
  obtain ⟨h1, h2, h3, h4, h5, h6, _⟩ := Ea.ok_bd h
  have := farOk_len h6
  unfold Ea.free at this
  omega
theorem s_EarRanges (e : Ea) (h : e.ok = true) : F_spec_EarRanges e.e = some ((rngS [] e.far, ()), ()) := by
  obtain ⟨h1, h2, h3, h4, h5, h6, h7⟩ := Ea.ok_bd h
  have hf := Ea.ok_far h
  have := s_EarRanges_l e h1 h2 e.far [] [] fuel 0 rfl (fun x hx => by have := h7 x hx; omega) (by rw [fuel_eq]; omega) (by simp; omega) rfl (by simp) (by simp)
  simp (disch := omega) only [decide_true, decide_false, decide_eq_true, decide_eq_false, if_pos, if_neg, wr, cond_true, cond_false, Bool.not_true, Bool.not_false, Bool.and_true, Bool.true_and, Bool.and_false, Bool.false_and, Bool.or_true, Bool.true_or, Bool.or_false, Bool.false_or, Option.bind_some, Int.toNat_natCast, Bool.and_self, Bool.or_self, Bool.cond_self, reduceIte, inR_eq, big_eq, beq_self_eq_true, List.nil_append, List.append_nil, List.length_nil, List.length_append, F_spec_EarRanges, s_EarOk e (by omega), h, this]
/-- the segments of an end -/
theorem s_l15Segment_l (s0 : Sg) (zz : TSegment) : ∀ (suf pre acc : List (Int × Int)) (n : Nat) (k : Int), suf.length < n → pre.length + suf.length ≤ 1000 → acc.length + suf.length ≤ 1000 → k = pre.length →
    L_spec_l15Segment_9 n ((), (), pre ++ suf, k, zz, ({ s0 with ranges := acc } : Sg).e, ()) = some ((({ s0 with ranges := acc ++ suf.map fun r => (seqOf r.1, seqOf r.2) } : Sg).e, ()), ())
  | [], pre, acc, 0, k, hn, hl, ha, hk => by simp at hn
  | [], pre, acc, n + 1, k, hn, hl, ha, hk => by
    simp (disch := omega) only [decide_true, decide_false, decide_eq_true, decide_eq_false, if_pos, if_neg, wr, cond_true, cond_false, Bool.not_true, Bool.not_false, Bool.and_true, Bool.true_and, Bool.and_false, Bool.false_and, Bool.or_true, Bool.true_or, Bool.or_false, Bool.false_or, Option.bind_some, Int.toNat_natCast, Bool.and_self, Bool.or_self, Bool.cond_self, reduceIte, inR_eq, big_eq, beq_self_eq_true, List.nil_append, List.append_nil, List.length_nil, List.length_append, L_spec_l15Segment_9, List.map_nil]
  | x :: suf, pre, acc, 0, k, hn, hl, ha, hk => by simp at hn
  | x :: suf, pre, acc, n + 1, k, hn, hl, ha, hk => by
    simp only [List.length_cons] at hl hn ha
    have hlen : (pre ++ x :: suf).length = pre.length + (suf.length + 1) := by simp
    have hx : rdI (0, 0) (pre ++ x :: suf) k.toNat = x := by rw [hk, Int.toNat_natCast]; exact rd_app _ _ _ _
    have ih := s_l15Segment_l s0 zz suf (pre ++ [x]) (acc ++ [(seqOf x.1, seqOf x.2)]) n (k + 1) (by omega) (by simp; omega) (by simp; omega) (by simp; omega)
    rw [List.append_assoc] at ih
    simp (disch := omega) only [decide_true, decide_false, decide_eq_true, decide_eq_false, if_pos, if_neg, wr, cond_true, cond_false, Bool.not_true, Bool.not_false, Bool.and_true, Bool.true_and, Bool.and_false, Bool.false_and, Bool.or_true, Bool.true_or, Bool.or_false, Bool.false_or, Option.bind_some, Int.toNat_natCast, Bool.and_self, Bool.or_self, Bool.cond_self, reduceIte, inR_eq, big_eq, beq_self_eq_true, List.nil_append, List.append_nil, List.length_nil, List.length_append, L_spec_l15Segment_9, hx, s_SeqOf, List.length_cons]
    refine (show _ = _ from ih).trans ?_
    simp
end Go.VI.EwcVi
set_option linter.unusedVariables false
set_option linter.unusedSimpArgs false
namespace Go.VI.EwcVi
open Go Go.VI Go.VI.Ns

theorem s_l15Segment (e : Ed) (at_ : Int) (he : e.ear.ok = true) : F_spec_l15Segment e.e at_ = some (((e.seg at_).e, ()), ()) := by
  obtain ⟨h1, h2, h3, h4, h5, h6, h7⟩ := Ea.ok_bd he
  have hf := Ea.ok_far he
  by_cases h : e.st = 2
  · simp (disch := omega) only [decide_true, decide_false, decide_eq_true, decide_eq_false, if_pos, if_neg, wr, cond_true, cond_false, Bool.not_true, Bool.not_false, Bool.and_true, Bool.true_and, Bool.and_false, Bool.false_and, Bool.or_true, Bool.true_or, Bool.or_false, Bool.false_or, Option.bind_some, Int.toNat_natCast, Bool.and_self, Bool.or_self, Bool.cond_self, reduceIte, inR_eq, big_eq, beq_self_eq_true, List.nil_append, List.append_nil, List.length_nil, List.length_append, F_spec_l15Segment, s_SeqOf, Ed.seg]
  · have hl := rngS_len e.ear.far [] (by simp)
    have := s_l15Segment_l ⟨e.n, e.pn, seqOf at_, seqOf e.wait, e.ear.free, false, true, false, false, [], []⟩ ((0 : Int), (0 : Int), (0 : Int), (0 : Int), (0 : Int), false, false, false, false, ([] : List TRange), ([] : List Int)) (rngS [] e.ear.far) [] [] fuel 0 (by rw [fuel_eq]; omega) (by simp; omega) (by simp; omega) rfl
    simp only [List.nil_append] at this
    simp (disch := omega) only [decide_true, decide_false, decide_eq_true, decide_eq_false, if_pos, if_neg, wr, cond_true, cond_false, Bool.not_true, Bool.not_false, Bool.and_true, Bool.true_and, Bool.and_false, Bool.false_and, Bool.or_true, Bool.true_or, Bool.or_false, Bool.false_or, Option.bind_some, Int.toNat_natCast, Bool.and_self, Bool.or_self, Bool.cond_self, reduceIte, inR_eq, big_eq, beq_self_eq_true, List.nil_append, List.append_nil, List.length_nil, List.length_append, F_spec_l15Segment, s_SeqOf, s_l15Wait e h1 (by omega), s_EarFree e.ear he (by omega), s_EarRanges e.ear he, this, Ed.seg, Ed.rng]
theorem s_l15First (e : Ed) (he : e.ear.ok = true) : F_spec_l15First e.e = some ((e.fst.e, ()), ()) := by
  simp (disch := omega) only [decide_true, decide_false, decide_eq_true, decide_eq_false, if_pos, if_neg, wr, cond_true, cond_false, Bool.not_true, Bool.not_false, Bool.and_true, Bool.true_and, Bool.and_false, Bool.false_and, Bool.or_true, Bool.true_or, Bool.or_false, Bool.false_or, Option.bind_some, Int.toNat_natCast, Bool.and_self, Bool.or_self, Bool.cond_self, reduceIte, inR_eq, big_eq, beq_self_eq_true, List.nil_append, List.append_nil, List.length_nil, List.length_append, F_spec_l15First, s_l15Segment e _ he, Ed.fst]
theorem s_l15Last (e : Ed) (he : e.ear.ok = true) (ho : e.out.ok = true) : F_spec_l15Last e.e = some ((e.lst.e, ()), ()) := by
  obtain ⟨h1, h2, h3, h4, h5, _⟩ := Mo.ok_sent ho
  simp (disch := omega) only [decide_true, decide_false, decide_eq_true, decide_eq_false, if_pos, if_neg, wr, cond_true, cond_false, Bool.not_true, Bool.not_false, Bool.and_true, Bool.true_and, Bool.and_false, Bool.false_and, Bool.or_true, Bool.true_or, Bool.or_false, Bool.false_or, Option.bind_some, Int.toNat_natCast, Bool.and_self, Bool.or_self, Bool.cond_self, reduceIte, inR_eq, big_eq, beq_self_eq_true, List.nil_append, List.append_nil, List.length_nil, List.length_append, F_spec_l15Last, s_l15Segment e _ he, Ed.lst]
theorem s_l15Arm (e : Ed) (now : Int) (on : Bool) (h : 0 ≤ e.out.sent ∧ e.out.sent ≤ e.out.keep.length) (h1 : 0 ≤ now ∧ now ≤ 1000000) (h2 : 0 ≤ e.pulse.wait ∧ e.pulse.wait ≤ 1000000) :
    F_spec_l15Arm e.e now on = some (((e.arm now on).e, ()), ()) := by
  have ho : F_spec_l15Open ({ e with tries := 0 } : Ed).e = some ((e.opn, ()), ()) := s_l15Open { e with tries := 0 } h
  cases on with
  | true =>
    cases hop : e.opn with
    | true => simp (disch := omega) only [decide_true, decide_false, decide_eq_true, decide_eq_false, if_pos, if_neg, wr, cond_true, cond_false, Bool.not_true, Bool.not_false, Bool.and_true, Bool.true_and, Bool.and_false, Bool.false_and, Bool.or_true, Bool.true_or, Bool.or_false, Bool.false_or, Option.bind_some, Int.toNat_natCast, Bool.and_self, Bool.or_self, Bool.cond_self, reduceIte, inR_eq, big_eq, beq_self_eq_true, List.nil_append, List.append_nil, List.length_nil, List.length_append, F_spec_l15Arm, ho, hop, Ed.arm]
    | false =>
      by_cases h5 : e.st = 5
      · simp (disch := omega) only [decide_true, decide_false, decide_eq_true, decide_eq_false, if_pos, if_neg, wr, cond_true, cond_false, Bool.not_true, Bool.not_false, Bool.and_true, Bool.true_and, Bool.and_false, Bool.false_and, Bool.or_true, Bool.true_or, Bool.or_false, Bool.false_or, Option.bind_some, Int.toNat_natCast, Bool.and_self, Bool.or_self, Bool.cond_self, reduceIte, inR_eq, big_eq, beq_self_eq_true, List.nil_append, List.append_nil, List.length_nil, List.length_append, F_spec_l15Arm, ho, hop, Ed.arm, Bool.false_eq_true]
      · simp (disch := omega) only [decide_true, decide_false, decide_eq_true, decide_eq_false, if_pos, if_neg, wr, cond_true, cond_false, Bool.not_true, Bool.not_false, Bool.and_true, Bool.true_and, Bool.and_false, Bool.false_and, Bool.or_true, Bool.true_or, Bool.or_false, Bool.false_or, Option.bind_some, Int.toNat_natCast, Bool.and_self, Bool.or_self, Bool.cond_self, reduceIte, inR_eq, big_eq, beq_self_eq_true, List.nil_append, List.append_nil, List.length_nil, List.length_append, F_spec_l15Arm, ho, hop, Ed.arm, Bool.false_eq_true]
  | false =>
    cases hop : e.opn with
    | true =>
      by_cases hd : e.due = 0
      · simp (disch := omega) only [decide_true, decide_false, decide_eq_true, decide_eq_false, if_pos, if_neg, wr, cond_true, cond_false, Bool.not_true, Bool.not_false, Bool.and_true, Bool.true_and, Bool.and_false, Bool.false_and, Bool.or_true, Bool.true_or, Bool.or_false, Bool.false_or, Option.bind_some, Int.toNat_natCast, Bool.and_self, Bool.or_self, Bool.cond_self, reduceIte, inR_eq, big_eq, beq_self_eq_true, List.nil_append, List.append_nil, List.length_nil, List.length_append, F_spec_l15Arm, s_l15Open e h, hop, Ed.arm, Bool.false_eq_true]
      · simp (disch := omega) only [decide_true, decide_false, decide_eq_true, decide_eq_false, if_pos, if_neg, wr, cond_true, cond_false, Bool.not_true, Bool.not_false, Bool.and_true, Bool.true_and, Bool.and_false, Bool.false_and, Bool.or_true, Bool.true_or, Bool.or_false, Bool.false_or, Option.bind_some, Int.toNat_natCast, Bool.and_self, Bool.or_self, Bool.cond_self, reduceIte, inR_eq, big_eq, beq_self_eq_true, List.nil_append, List.append_nil, List.length_nil, List.length_append, F_spec_l15Arm, s_l15Open e h, hop, Ed.arm, Bool.false_eq_true]
    | false =>
      by_cases h5 : e.st = 5
      · have : decide (e.st ≠ 5) = false := by simp [h5]
        simp (disch := omega) only [decide_true, decide_false, decide_eq_true, decide_eq_false, if_pos, if_neg, wr, cond_true, cond_false, Bool.not_true, Bool.not_false, Bool.and_true, Bool.true_and, Bool.and_false, Bool.false_and, Bool.or_true, Bool.true_or, Bool.or_false, Bool.false_or, Option.bind_some, Int.toNat_natCast, Bool.and_self, Bool.or_self, Bool.cond_self, reduceIte, inR_eq, big_eq, beq_self_eq_true, List.nil_append, List.append_nil, List.length_nil, List.length_append, F_spec_l15Arm, s_l15Open e h, hop, Ed.arm, this, Bool.false_eq_true]
      · have : decide (e.st ≠ 5) = true := by simp [h5]
        simp (disch := omega) only [decide_true, decide_false, decide_eq_true, decide_eq_false, if_pos, if_neg, wr, cond_true, cond_false, Bool.not_true, Bool.not_false, Bool.and_true, Bool.true_and, Bool.and_false, Bool.false_and, Bool.or_true, Bool.true_or, Bool.or_false, Bool.false_or, Option.bind_some, Int.toNat_natCast, Bool.and_self, Bool.or_self, Bool.cond_self, reduceIte, inR_eq, big_eq, beq_self_eq_true, List.nil_append, List.append_nil, List.length_nil, List.length_append, F_spec_l15Arm, s_l15Open e h, hop, Ed.arm, this, Bool.false_eq_true]
theorem s_MouthWrite (m : Mo) (data : List Int) (h : m.ok = true) (hd : data.length ≤ 1000000) : F_spec_MouthWrite m.e data = some (((m.write data).e, m.writeN data, ()), ()) := by
  obtain ⟨h1, h2, h3, h4, h5, h6, h7, h8, h9⟩ := Mo.ok_sent h
  by_cases hc : 32 - (m.keep.length : Int) < data.length
  · have ht : (32 - (m.keep.length : Int)).toNat = 32 - m.keep.length := by omega
    have hl : (data.take (32 - m.keep.length)).length ≤ 32 := by simp; omega
    simp (disch := omega) only [decide_true, decide_false, decide_eq_true, decide_eq_false, if_pos, if_neg, wr, cond_true, cond_false, Bool.not_true, Bool.not_false, Bool.and_true, Bool.true_and, Bool.and_false, Bool.false_and, Bool.or_true, Bool.true_or, Bool.or_false, Bool.false_or, Option.bind_some, Int.toNat_natCast, Bool.and_self, Bool.or_self, Bool.cond_self, reduceIte, inR_eq, big_eq, beq_self_eq_true, List.nil_append, List.append_nil, List.length_nil, List.length_append, F_spec_MouthWrite, s_MouthOk, h, s_l13Copy m (by omega) (by omega), Mo.write, Mo.writeN, ht]
  · have ht : data.take (32 - m.keep.length) = data := List.take_of_length_le (by omega)
    have ht2 : data.take data.length = data := List.take_length
    simp (disch := omega) only [decide_true, decide_false, decide_eq_true, decide_eq_false, if_pos, if_neg, wr, cond_true, cond_false, Bool.not_true, Bool.not_false, Bool.and_true, Bool.true_and, Bool.and_false, Bool.false_and, Bool.or_true, Bool.true_or, Bool.or_false, Bool.false_or, Option.bind_some, Int.toNat_natCast, Bool.and_self, Bool.or_self, Bool.cond_self, reduceIte, inR_eq, big_eq, beq_self_eq_true, List.nil_append, List.append_nil, List.length_nil, List.length_append, F_spec_MouthWrite, s_MouthOk, h, s_l13Copy m (by omega) (by omega), Mo.write, Mo.writeN, ht, ht2]
theorem s_MouthNext (m : Mo) (l : Int) (h : m.ok = true) (hl : 1 ≤ l ∧ l ≤ 12) : F_spec_MouthNext m.e l = some (((m.nxt l).e, m.heard + m.sent, m.nxtB l, ()), ()) := by
  obtain ⟨h1, h2, h3, h4, h5, h6, h7, h8, h9⟩ := Mo.ok_sent h
  have hin : F_spec_l1In l 1 12 = true := by rw [s_l1In]; simp (disch := omega) only [decide_true, decide_false, decide_eq_true, decide_eq_false, if_pos, if_neg, wr, cond_true, cond_false, Bool.not_true, Bool.not_false, Bool.and_true, Bool.true_and, Bool.and_false, Bool.false_and, Bool.or_true, Bool.true_or, Bool.or_false, Bool.false_or, Option.bind_some, Int.toNat_natCast, Bool.and_self, Bool.or_self, Bool.cond_self, reduceIte, inR_eq, big_eq, beq_self_eq_true, List.nil_append, List.append_nil, List.length_nil, List.length_append, inn]
  have hlen : ∀ x : Int, ((m.keep.take x.toNat).drop m.sent.toNat).length ≤ 32 := by intro x; simp; omega
  have hu : ∀ x, x = m.upto l → ¬ x ≤ m.sent → (m.nxt l) = { m with sent := x } ∧ m.nxtB l = (m.keep.take x.toNat).drop m.sent.toNat := by
    rintro x rfl hx; exact ⟨by unfold Mo.nxt; rw [if_neg hx], by unfold Mo.nxtB; rw [if_neg hx]⟩
  have hv : m.upto l ≤ m.sent → m.nxt l = m ∧ m.nxtB l = [] := fun hx => ⟨by unfold Mo.nxt; rw [if_pos hx], by unfold Mo.nxtB; rw [if_pos hx]⟩
  have key : ∀ x, x = m.upto l → (if IntKind.i64.wrap (m.sent + l) < (if m.room < (m.keep.length : Int) then m.room else (m.keep.length : Int)) then IntKind.i64.wrap (m.sent + l) else (if m.room < (m.keep.length : Int) then m.room else (m.keep.length : Int))) = x := by
    rintro x rfl
    rw [wr (by omega) (by omega)]
    unfold Mo.upto
    split <;> split <;> omega
  have hle := m.upto_le l
  simp only [F_spec_MouthNext, s_MouthOk, h, hin, s_l13Copy m (by omega) (by omega), Option.bind_some, key _ rfl]
  by_cases hc : m.upto l ≤ m.sent
  · obtain ⟨e1, e2⟩ := hv hc
    simp (disch := omega) only [decide_true, decide_false, decide_eq_true, decide_eq_false, if_pos, if_neg, wr, cond_true, cond_false, Bool.not_true, Bool.not_false, Bool.and_true, Bool.true_and, Bool.and_false, Bool.false_and, Bool.or_true, Bool.true_or, Bool.or_false, Bool.false_or, Option.bind_some, Int.toNat_natCast, Bool.and_self, Bool.or_self, Bool.cond_self, reduceIte, inR_eq, big_eq, beq_self_eq_true, List.nil_append, List.append_nil, List.length_nil, List.length_append, e1, e2]
  · obtain ⟨e1, e2⟩ := hu _ rfl hc
    have := hlen (m.upto l)
    simp (disch := omega) only [decide_true, decide_false, decide_eq_true, decide_eq_false, if_pos, if_neg, wr, cond_true, cond_false, Bool.not_true, Bool.not_false, Bool.and_true, Bool.true_and, Bool.and_false, Bool.false_and, Bool.or_true, Bool.true_or, Bool.or_false, Bool.false_or, Option.bind_some, Int.toNat_natCast, Bool.and_self, Bool.or_self, Bool.cond_self, reduceIte, inR_eq, big_eq, beq_self_eq_true, List.nil_append, List.append_nil, List.length_nil, List.length_append, e1, e2]
theorem s_l15Bytes_l (zz : TEnd) : ∀ (n k : Nat) (e : Ed) (l : List Sg), e.out.ok = true → e.ear.ok = true → k ≤ n → l.length + k ≤ 1000 → (e.out.keep.length : Int) - e.out.sent < k → 0 < k →
    L_spec_l15Bytes_2 n ((), (), l.map Sg.e, e.e, zz, ()) = some (((Ed.bytes k e l).1.e, (Ed.bytes k e l).2.map Sg.e, ()), ())
  | 0, k, e, l, ho, he, hk, hl, hs, hp => by omega
  | n + 1, 0, e, l, ho, he, hk, hl, hs, hp => by omega
  | n + 1, k + 1, e, l, ho, he, hk, hl, hs, hp => by
    have hn := s_MouthNext e.out 12 ho (by omega)
    obtain ⟨h1, h2, h3, h4, h5, h6, h7, h8, h9⟩ := Mo.ok_sent ho
    by_cases h4 : e.st = 4
    · by_cases hb : e.out.nxtB 12 = []
      · have e1 : Ed.bytes (k + 1) e l = (e, l) := by simp [Ed.bytes, hb]
        have hb' : ((e.out.nxtB 12).length : Int) = 0 := by rw [hb]; rfl
        simp (disch := omega) only [decide_true, decide_false, decide_eq_true, decide_eq_false, if_pos, if_neg, wr, cond_true, cond_false, Bool.not_true, Bool.not_false, Bool.and_true, Bool.true_and, Bool.and_false, Bool.false_and, Bool.or_true, Bool.true_or, Bool.or_false, Bool.false_or, Option.bind_some, Int.toNat_natCast, Bool.and_self, Bool.or_self, Bool.cond_self, reduceIte, inR_eq, big_eq, beq_self_eq_true, List.nil_append, List.append_nil, List.length_nil, List.length_append, L_spec_l15Bytes_2, hn, hb', e1]
      · have e1 : Ed.bytes (k + 1) e l = Ed.bytes k { e with out := e.out.nxt 12 } (l ++ [{ ({ e with out := e.out.nxt 12 } : Ed).seg (e.out.heard + e.out.sent) with data := e.out.nxtB 12 }]) := by
          rw [Ed.bytes, if_pos ⟨h4, hb⟩]
        have hb' : 0 < ((e.out.nxtB 12).length : Int) := by have := List.length_pos_iff.2 hb; omega
        have hup : ¬ e.out.upto 12 ≤ e.out.sent := by intro hh; apply hb; unfold Mo.nxtB; rw [if_pos hh]
        have hsent : (e.out.nxt 12).sent = e.out.upto 12 ∧ (e.out.nxt 12).keep = e.out.keep := by unfold Mo.nxt; rw [if_neg hup]; exact ⟨rfl, rfl⟩
        have hle := e.out.upto_le 12
        have ok' := Mo.nxt_ok ho 12
        have hseg := s_l15Segment { e with out := e.out.nxt 12 } (e.out.heard + e.out.sent) he
        by_cases hk0 : k = 0
        · subst hk0; omega
        · have ih := s_l15Bytes_l zz n k { e with out := e.out.nxt 12 } (l ++ [{ ({ e with out := e.out.nxt 12 } : Ed).seg (e.out.heard + e.out.sent) with data := e.out.nxtB 12 }]) ok' he (by omega) (by simp; omega) (by simp only [hsent.1, hsent.2]; omega) (by omega)
          rw [List.map_append] at ih
          simp (disch := omega) only [decide_true, decide_false, decide_eq_true, decide_eq_false, if_pos, if_neg, wr, cond_true, cond_false, Bool.not_true, Bool.not_false, Bool.and_true, Bool.true_and, Bool.and_false, Bool.false_and, Bool.or_true, Bool.true_or, Bool.or_false, Bool.false_or, Option.bind_some, Int.toNat_natCast, Bool.and_self, Bool.or_self, Bool.cond_self, reduceIte, inR_eq, big_eq, beq_self_eq_true, List.nil_append, List.append_nil, List.length_nil, List.length_append, L_spec_l15Bytes_2, hn, hseg, e1, List.length_map, List.length_cons]
          exact ih
    · have e1 : Ed.bytes (k + 1) e l = (e, l) := by simp [Ed.bytes, h4]
      simp (disch := omega) only [decide_true, decide_false, decide_eq_true, decide_eq_false, if_pos, if_neg, wr, cond_true, cond_false, Bool.not_true, Bool.not_false, Bool.and_true, Bool.true_and, Bool.and_false, Bool.false_and, Bool.or_true, Bool.true_or, Bool.or_false, Bool.false_or, Option.bind_some, Int.toNat_natCast, Bool.and_self, Bool.or_self, Bool.cond_self, reduceIte, inR_eq, big_eq, beq_self_eq_true, List.nil_append, List.append_nil, List.length_nil, List.length_append, L_spec_l15Bytes_2, e1]
theorem s_l15Bytes (e : Ed) (ho : e.out.ok = true) (he : e.ear.ok = true) : F_spec_l15Bytes e.e = some ((e.tellB.1.e, e.tellB.2.map Sg.e, ()), ()) := by
  obtain ⟨h1, h2, h3, h4, h5, h6, h7, h8, h9⟩ := Mo.ok_sent ho
  exact s_l15Bytes_l _ fuel 40 e [] ho he (by rw [fuel_eq]; omega) (by simp) (by omega) (by omega)
end Go.VI.EwcVi
set_option linter.unusedVariables false
set_option linter.unusedSimpArgs false
namespace Go.VI.EwcVi
open Go Go.VI Go.VI.Ns

theorem Is.small {e : Ed} (h : e.Is) : Small e ∧ e.ear.far.length ≤ 1000000000 := by
  obtain ⟨h1, h2, h3, h4, h5, h6, h7, h8, h9⟩ := Mo.ok_sent h.out
  obtain ⟨k1, k2, k3, k4, k5, k6, k7⟩ := Ea.ok_bd h.ear
  have := Ea.ok_far h.ear
  exact ⟨⟨by omega, by omega, by omega, by omega⟩, by omega⟩
theorem s_EndOk_is {e : Ed} (h : e.Is) : F_spec_EndOk e.e = some ((true, ()), ()) := by
  rw [s_EndOk e (Is.small h).2, (Ed.ok_iff e).2 h]
theorem s_EndListen {e : Ed} (h : e.Is) : F_spec_EndListen e.e = some ((e.listen.e, decide (e.st = 0), ()), ()) := by
  by_cases h0 : e.st = 0
  · simp (disch := omega) only [decide_true, decide_false, decide_eq_true, decide_eq_false, if_pos, if_neg, wr, cond_true, cond_false, Bool.not_true, Bool.not_false, Bool.and_true, Bool.true_and, Bool.and_false, Bool.false_and, Bool.or_true, Bool.true_or, Bool.or_false, Bool.false_or, Option.bind_some, Int.toNat_natCast, Bool.and_self, Bool.or_self, Bool.cond_self, reduceIte, inR_eq, big_eq, beq_self_eq_true, List.nil_append, List.append_nil, List.length_nil, List.length_append, F_spec_EndListen, s_EndOk_is h, s_l15Copy e (Is.small h).1, Ed.listen]
  · simp (disch := omega) only [decide_true, decide_false, decide_eq_true, decide_eq_false, if_pos, if_neg, wr, cond_true, cond_false, Bool.not_true, Bool.not_false, Bool.and_true, Bool.true_and, Bool.and_false, Bool.false_and, Bool.or_true, Bool.true_or, Bool.or_false, Bool.false_or, Option.bind_some, Int.toNat_natCast, Bool.and_self, Bool.or_self, Bool.cond_self, reduceIte, inR_eq, big_eq, beq_self_eq_true, List.nil_append, List.append_nil, List.length_nil, List.length_append, F_spec_EndListen, s_EndOk_is h, s_l15Copy e (Is.small h).1, Ed.listen]
theorem s_EndConnect {e : Ed} (h : e.Is) {addr port now : Int} (ha : 0 ≤ addr ∧ addr ≤ 65535) (hp : 1 ≤ port ∧ port ≤ 255) (hn : 0 ≤ now ∧ now ≤ 900000) :
    F_spec_EndConnect e.e addr port now = some ((if e.st = 0 then ((e.connect addr port now).e, [(e.connect addr port now).fst.e], ()) else (e.e, [], ())), ()) := by
  obtain ⟨g1, g2, g3, g4, g5, g6, g7, g8, g9⟩ := Mo.ok_sent h.out
  have hc := Ck.ok_bd h.pulse
  by_cases h0 : e.st = 0
  · have har := s_l15Arm { e with st := 2, paddr := addr, pn := port } now true ⟨g1, g2⟩ (by omega) (by simp only; omega)
    have hear : (e.connect addr port now).ear = e.ear := Ed.arm_ear _ _ _
    have hf := s_l15First (e.connect addr port now) (by rw [hear]; exact h.ear)
    simp (disch := omega) only [decide_true, decide_false, decide_eq_true, decide_eq_false, if_pos, if_neg, wr, cond_true, cond_false, Bool.not_true, Bool.not_false, Bool.and_true, Bool.true_and, Bool.and_false, Bool.false_and, Bool.or_true, Bool.true_or, Bool.or_false, Bool.false_or, Option.bind_some, Int.toNat_natCast, Bool.and_self, Bool.or_self, Bool.cond_self, reduceIte, inR_eq, big_eq, beq_self_eq_true, List.nil_append, List.append_nil, List.length_nil, List.length_append, F_spec_EndConnect, s_EndOk_is h, s_l1In, inn, s_l15Copy e (Is.small h).1]
    rw [har]
    simp (disch := omega) only [decide_true, decide_false, decide_eq_true, decide_eq_false, if_pos, if_neg, wr, cond_true, cond_false, Bool.not_true, Bool.not_false, Bool.and_true, Bool.true_and, Bool.and_false, Bool.false_and, Bool.or_true, Bool.true_or, Bool.or_false, Bool.false_or, Option.bind_some, Int.toNat_natCast, Bool.and_self, Bool.or_self, Bool.cond_self, reduceIte, inR_eq, big_eq, beq_self_eq_true, List.nil_append, List.append_nil, List.length_nil, List.length_append]
    rw [show (({ e with st := 2, paddr := addr, pn := port } : Ed).arm now true) = e.connect addr port now from rfl, hf]
    rfl
  · simp (disch := omega) only [decide_true, decide_false, decide_eq_true, decide_eq_false, if_pos, if_neg, wr, cond_true, cond_false, Bool.not_true, Bool.not_false, Bool.and_true, Bool.true_and, Bool.and_false, Bool.false_and, Bool.or_true, Bool.true_or, Bool.or_false, Bool.false_or, Option.bind_some, Int.toNat_natCast, Bool.and_self, Bool.or_self, Bool.cond_self, reduceIte, inR_eq, big_eq, beq_self_eq_true, List.nil_append, List.append_nil, List.length_nil, List.length_append, F_spec_EndConnect, s_EndOk_is h, s_l1In, inn, s_l15Copy e (Is.small h).1]
theorem Ed.bytes_keep : ∀ (k : Nat) (e : Ed) (l : List Sg), (Ed.bytes k e l).1.ear = e.ear ∧ (Ed.bytes k e l).1.pulse = e.pulse ∧ (e.out.ok = true → (Ed.bytes k e l).1.out.ok = true)
  | 0, e, l => ⟨rfl, rfl, fun h => h⟩
  | k + 1, e, l => by
    unfold Ed.bytes
    split
    · obtain ⟨h1, h2, h3⟩ := Ed.bytes_keep k { e with out := e.out.nxt 12 } (l ++ [{ ({ e with out := e.out.nxt 12 } : Ed).seg (e.out.heard + e.out.sent) with data := e.out.nxtB 12 }])
      exact ⟨h1, h2, fun h => h3 (Mo.nxt_ok h 12)⟩
    · exact ⟨rfl, rfl, fun h => h⟩
theorem s_EndWrite {e : Ed} (h : e.Is) {data : List Int} {now : Int} (hd : data.length ≤ 1000000) (hn : 0 ≤ now ∧ now ≤ 900000) :
    F_spec_EndWrite e.e data now = some (((e.write data now).e, e.putN data, (e.writeL data).map Sg.e, ()), ()) := by
  have hc := Ck.ok_bd h.pulse
  have hput : (e.put data).out.ok = true := by
    unfold Ed.put
    split
    · exact Mo.write_ok h.out data
    · exact h.out
  have hear : (e.put data).ear = e.ear ∧ (e.put data).pulse = e.pulse := by unfold Ed.put; split <;> exact ⟨rfl, rfl⟩
  have hb := s_l15Bytes (e.put data) hput (by rw [hear.1]; exact h.ear)
  obtain ⟨k1, k2, k3⟩ := Ed.bytes_keep 40 (e.put data) []
  obtain ⟨m1, m2, _⟩ := Mo.ok_sent (k3 hput)
  have har := s_l15Arm (e.put data).tellB.1 now false ⟨m1, m2⟩ (by omega) (by
    have : (e.put data).tellB.1.pulse = e.pulse := k2.trans hear.2
    rw [this]; omega)
  have hw := s_MouthWrite e.out data h.out hd
  cases hq : (!e.closed && decide (e.st ≠ 5)) with
  | true =>
    have e1 : e.put data = { e with out := e.out.write data } := by unfold Ed.put; rw [hq]; rfl
    have e2 : e.putN data = e.out.writeN data := by unfold Ed.putN; rw [hq]; rfl
    have hq' : e.closed = false ∧ ¬ e.st = 5 := by simpa using hq
    obtain ⟨hcl, h5⟩ := hq'
    rw [e1] at hb har
    simp only [Ed.e, hcl] at hb har
    by_cases h4 : e.st = 4
    · simp (disch := omega) only [decide_true, decide_false, decide_eq_true, decide_eq_false, if_pos, if_neg, wr, cond_true, cond_false, Bool.not_true, Bool.not_false, Bool.and_true, Bool.true_and, Bool.and_false, Bool.false_and, Bool.or_true, Bool.true_or, Bool.or_false, Bool.false_or, Option.bind_some, Int.toNat_natCast, Bool.and_self, Bool.or_self, Bool.cond_self, reduceIte, inR_eq, big_eq, beq_self_eq_true, List.nil_append, List.append_nil, List.length_nil, List.length_append, F_spec_EndWrite, s_EndOk_is h, s_l1In, inn, s_l15Copy e (Is.small h).1, Bool.cond_false_right, hcl, hw, hb, har, Ed.write, Ed.writeL, e1, e2]
    · simp (disch := omega) only [decide_true, decide_false, decide_eq_true, decide_eq_false, if_pos, if_neg, wr, cond_true, cond_false, Bool.not_true, Bool.not_false, Bool.and_true, Bool.true_and, Bool.and_false, Bool.false_and, Bool.or_true, Bool.true_or, Bool.or_false, Bool.false_or, Option.bind_some, Int.toNat_natCast, Bool.and_self, Bool.or_self, Bool.cond_self, reduceIte, inR_eq, big_eq, beq_self_eq_true, List.nil_append, List.append_nil, List.length_nil, List.length_append, F_spec_EndWrite, s_EndOk_is h, s_l1In, inn, s_l15Copy e (Is.small h).1, Bool.cond_false_right, hcl, hw, Ed.write, Ed.writeL, e1, e2, List.map_nil]
  | false =>
    have e1 : e.put data = e := by unfold Ed.put; rw [hq]; rfl
    have e2 : e.putN data = 0 := by unfold Ed.putN; rw [hq]; rfl
    have hq' : e.closed = true ∨ e.st = 5 := by
      by_cases h5 : e.st = 5
      · exact .inr h5
      · left; simpa [h5] using hq
    rw [e1] at hb har
    by_cases h4 : e.st = 4
    · have hcl : e.closed = true := hq'.resolve_right (by omega)
      simp (disch := omega) only [decide_true, decide_false, decide_eq_true, decide_eq_false, if_pos, if_neg, wr, cond_true, cond_false, Bool.not_true, Bool.not_false, Bool.and_true, Bool.true_and, Bool.and_false, Bool.false_and, Bool.or_true, Bool.true_or, Bool.or_false, Bool.false_or, Option.bind_some, Int.toNat_natCast, Bool.and_self, Bool.or_self, Bool.cond_self, reduceIte, inR_eq, big_eq, beq_self_eq_true, List.nil_append, List.append_nil, List.length_nil, List.length_append, F_spec_EndWrite, s_EndOk_is h, s_l1In, inn, s_l15Copy e (Is.small h).1, Bool.cond_false_right, hcl, hb, har, Ed.write, Ed.writeL, e1, e2]
    · rcases hq' with hcl | h5
      · simp (disch := omega) only [decide_true, decide_false, decide_eq_true, decide_eq_false, if_pos, if_neg, wr, cond_true, cond_false, Bool.not_true, Bool.not_false, Bool.and_true, Bool.true_and, Bool.and_false, Bool.false_and, Bool.or_true, Bool.true_or, Bool.or_false, Bool.false_or, Option.bind_some, Int.toNat_natCast, Bool.and_self, Bool.or_self, Bool.cond_self, reduceIte, inR_eq, big_eq, beq_self_eq_true, List.nil_append, List.append_nil, List.length_nil, List.length_append, F_spec_EndWrite, s_EndOk_is h, s_l1In, inn, s_l15Copy e (Is.small h).1, Bool.cond_false_right, hcl, Ed.write, Ed.writeL, e1, e2, List.map_nil]
      · simp (disch := omega) only [decide_true, decide_false, decide_eq_true, decide_eq_false, if_pos, if_neg, wr, cond_true, cond_false, Bool.not_true, Bool.not_false, Bool.and_true, Bool.true_and, Bool.and_false, Bool.false_and, Bool.or_true, Bool.true_or, Bool.or_false, Bool.false_or, Option.bind_some, Int.toNat_natCast, Bool.and_self, Bool.or_self, Bool.cond_self, reduceIte, inR_eq, big_eq, beq_self_eq_true, List.nil_append, List.append_nil, List.length_nil, List.length_append, F_spec_EndWrite, s_EndOk_is h, s_l1In, inn, s_l15Copy e (Is.small h).1, Bool.cond_false_right, Ed.write, Ed.writeL, e1, e2, List.map_nil]
theorem s_EarRead {e : Ea} (h : e.ok = true) {many : Int} (hm : 0 ≤ many) : F_spec_EarRead e.e many = some (((e.rest many).e, e.got.take many.toNat, ()), ()) := by
  obtain ⟨k1, k2, k3, k4, k5, k6, k7⟩ := Ea.ok_bd h
  have hf := Ea.ok_far h
  have hl1 : (e.got.drop many.toNat).length ≤ 32 := by simp; omega
  have hl2 : (e.got.take many.toNat).length ≤ 32 := by simp; omega
  by_cases hc : (e.got.length : Int) < many
  · have t1 : e.got.drop e.got.length = [] := List.drop_length
    have t2 : e.got.take e.got.length = e.got := List.take_length
    have t3 : e.got.drop many.toNat = [] := List.drop_of_length_le (by omega)
    have t4 : e.got.take many.toNat = e.got := List.take_of_length_le (by omega)
    simp (disch := omega) only [decide_true, decide_false, decide_eq_true, decide_eq_false, if_pos, if_neg, wr, cond_true, cond_false, Bool.not_true, Bool.not_false, Bool.and_true, Bool.true_and, Bool.and_false, Bool.false_and, Bool.or_true, Bool.true_or, Bool.or_false, Bool.false_or, Option.bind_some, Int.toNat_natCast, Bool.and_self, Bool.or_self, Bool.cond_self, reduceIte, inR_eq, big_eq, beq_self_eq_true, List.nil_append, List.append_nil, List.length_nil, List.length_append, F_spec_EarRead, s_EarOk e (by omega), h, Nat.zero_add, t1, t2, Ea.rest, t3, t4]
  · simp (disch := omega) only [decide_true, decide_false, decide_eq_true, decide_eq_false, if_pos, if_neg, wr, cond_true, cond_false, Bool.not_true, Bool.not_false, Bool.and_true, Bool.true_and, Bool.and_false, Bool.false_and, Bool.or_true, Bool.true_or, Bool.or_false, Bool.false_or, Option.bind_some, Int.toNat_natCast, Bool.and_self, Bool.or_self, Bool.cond_self, reduceIte, inR_eq, big_eq, beq_self_eq_true, List.nil_append, List.append_nil, List.length_nil, List.length_append, F_spec_EarRead, s_EarOk e (by omega), h, Nat.zero_add, Ea.rest]
theorem Ea.rest_ok {e : Ea} (h : e.ok = true) (many : Int) : (e.rest many).ok = true := by
  have mono : ∀ (l : List (Int × Int)) (t t' last : Int), t ≤ t' → farOk t last l = true → farOk t' last l = true := by
    intro l
    induction l with
    | nil => intro t t' last _ _; rfl
    | cons r l ih =>
      intro t t' last ht hh
      simp only [farOk, Bool.and_eq_true, decide_eq_true_eq] at hh ⊢
      exact ⟨⟨hh.1.1, by omega⟩, ih t t' _ ht hh.2⟩
  simp only [Ea.ok, Ea.rest, Ea.free, Bool.and_eq_true, inn_iff, decide_eq_true_eq, List.length_drop] at h ⊢
  obtain ⟨⟨⟨h1, h2⟩, h3⟩, h4⟩ := h
  exact ⟨⟨⟨h1, h2⟩, by omega⟩, mono _ _ _ _ (by omega) h4⟩
theorem s_l15Told (e : Ed) : F_spec_l15Told e.e = some ((e.told, ()), ()) := by
  cases h : e.ltold <;> simp (disch := omega) only [decide_true, decide_false, decide_eq_true, decide_eq_false, if_pos, if_neg, wr, cond_true, cond_false, Bool.not_true, Bool.not_false, Bool.and_true, Bool.true_and, Bool.and_false, Bool.false_and, Bool.or_true, Bool.true_or, Bool.or_false, Bool.false_or, Option.bind_some, Int.toNat_natCast, Bool.and_self, Bool.or_self, Bool.cond_self, reduceIte, inR_eq, big_eq, beq_self_eq_true, List.nil_append, List.append_nil, List.length_nil, List.length_append, F_spec_l15Told, Ed.told, h, Bool.false_eq_true]
theorem s_EndRead {e : Ed} (h : e.Is) {many now : Int} (hm : 0 ≤ many) (hn : 0 ≤ now ∧ now ≤ 900000) :
    F_spec_EndRead e.e many now = some (((e.read many).e, e.ear.got.take many.toNat, (e.readL many).map Sg.e, ()), ()) := by
  obtain ⟨k1, k2, k3, k4, k5, k6, k7⟩ := Ea.ok_bd h.ear
  obtain ⟨g1, g2, g3, g4, g5, g6, g7, g8, g9⟩ := Mo.ok_sent h.out
  have hf := Ea.ok_far h.ear
  have hr := Ea.rest_ok h.ear many
  have hf2 := Ea.ok_far hr
  have ht := s_l15Told { e with ear := e.ear.rest many }
  have htd : ({ e with ear := e.ear.rest many } : Ed).told = e.told := rfl
  rw [htd] at ht
  have hs := fun p => s_l15Segment { e with ear := e.ear.rest many } p hr
  have htb : 0 ≤ e.told ∧ e.told ≤ 1 := by unfold Ed.told; split <;> omega
  by_cases h4 : e.st = 4
  · by_cases hz : e.ear.free = 0
    · by_cases hp : 0 < (e.ear.rest many).free
      · simp (disch := omega) only [decide_true, decide_false, decide_eq_true, decide_eq_false, if_pos, if_neg, wr, cond_true, cond_false, Bool.not_true, Bool.not_false, Bool.and_true, Bool.true_and, Bool.and_false, Bool.false_and, Bool.or_true, Bool.true_or, Bool.or_false, Bool.false_or, Option.bind_some, Int.toNat_natCast, Bool.and_self, Bool.or_self, Bool.cond_self, reduceIte, inR_eq, big_eq, beq_self_eq_true, List.nil_append, List.append_nil, List.length_nil, List.length_append, F_spec_EndRead, s_EndOk_is h, s_l1In, inn, s_l15Copy e (Is.small h).1, s_EarRead h.ear hm, s_EarFree e.ear h.ear (by omega), s_EarFree (e.ear.rest many) hr (by omega), ht, hs, Ed.read, Ed.readL, List.map_cons, List.map_nil]
      · simp (disch := omega) only [decide_true, decide_false, decide_eq_true, decide_eq_false, if_pos, if_neg, wr, cond_true, cond_false, Bool.not_true, Bool.not_false, Bool.and_true, Bool.true_and, Bool.and_false, Bool.false_and, Bool.or_true, Bool.true_or, Bool.or_false, Bool.false_or, Option.bind_some, Int.toNat_natCast, Bool.and_self, Bool.or_self, Bool.cond_self, reduceIte, inR_eq, big_eq, beq_self_eq_true, List.nil_append, List.append_nil, List.length_nil, List.length_append, F_spec_EndRead, s_EndOk_is h, s_l1In, inn, s_l15Copy e (Is.small h).1, s_EarRead h.ear hm, s_EarFree e.ear h.ear (by omega), s_EarFree (e.ear.rest many) hr (by omega), Ed.read, Ed.readL, List.map_cons, List.map_nil]
    · simp (disch := omega) only [decide_true, decide_false, decide_eq_true, decide_eq_false, if_pos, if_neg, wr, cond_true, cond_false, Bool.not_true, Bool.not_false, Bool.and_true, Bool.true_and, Bool.and_false, Bool.false_and, Bool.or_true, Bool.true_or, Bool.or_false, Bool.false_or, Option.bind_some, Int.toNat_natCast, Bool.and_self, Bool.or_self, Bool.cond_self, reduceIte, inR_eq, big_eq, beq_self_eq_true, List.nil_append, List.append_nil, List.length_nil, List.length_append, F_spec_EndRead, s_EndOk_is h, s_l1In, inn, s_l15Copy e (Is.small h).1, s_EarRead h.ear hm, s_EarFree e.ear h.ear (by omega), Ed.read, Ed.readL, List.map_cons, List.map_nil]
  · simp (disch := omega) only [decide_true, decide_false, decide_eq_true, decide_eq_false, if_pos, if_neg, wr, cond_true, cond_false, Bool.not_true, Bool.not_false, Bool.and_true, Bool.true_and, Bool.and_false, Bool.false_and, Bool.or_true, Bool.true_or, Bool.or_false, Bool.false_or, Option.bind_some, Int.toNat_natCast, Bool.and_self, Bool.or_self, Bool.cond_self, reduceIte, inR_eq, big_eq, beq_self_eq_true, List.nil_append, List.append_nil, List.length_nil, List.length_append, F_spec_EndRead, s_EndOk_is h, s_l1In, inn, s_l15Copy e (Is.small h).1, s_EarRead h.ear hm, Ed.read, Ed.readL, List.map_cons, List.map_nil]
end Go.VI.EwcVi
set_option linter.unusedVariables false
set_option linter.unusedSimpArgs false
namespace Go.VI.EwcVi
open Go Go.VI Go.VI.Ns

theorem s_ClockLate {c : Ck} (h : c.ok = true) : F_spec_ClockLate c.e = some ((c.late.e, ()), ()) := by
  have := Ck.ok_bd h
  by_cases hc : 200 < 2 * c.wait
  · have hm : min 200 (2 * c.wait) = 200 := by omega
    simp (disch := omega) only [decide_true, decide_false, decide_eq_true, decide_eq_false, if_pos, if_neg, wr, cond_true, cond_false, Bool.not_true, Bool.not_false, Bool.and_true, Bool.true_and, Bool.and_false, Bool.false_and, Bool.or_true, Bool.true_or, Bool.or_false, Bool.false_or, Option.bind_some, Int.toNat_natCast, Bool.and_self, Bool.or_self, Bool.cond_self, reduceIte, inR_eq, big_eq, beq_self_eq_true, List.nil_append, List.append_nil, List.length_nil, List.length_append, F_spec_ClockLate, s_ClockOk, h, Ck.late, hm]
  · have hm : min 200 (2 * c.wait) = 2 * c.wait := by omega
    simp (disch := omega) only [decide_true, decide_false, decide_eq_true, decide_eq_false, if_pos, if_neg, wr, cond_true, cond_false, Bool.not_true, Bool.not_false, Bool.and_true, Bool.true_and, Bool.and_false, Bool.false_and, Bool.or_true, Bool.true_or, Bool.or_false, Bool.false_or, Option.bind_some, Int.toNat_natCast, Bool.and_self, Bool.or_self, Bool.cond_self, reduceIte, inR_eq, big_eq, beq_self_eq_true, List.nil_append, List.append_nil, List.length_nil, List.length_append, F_spec_ClockLate, s_ClockOk, h, Ck.late, hm]
theorem s_MouthAgain {m : Mo} (h : m.ok = true) : F_spec_MouthAgain m.e 12 = some ((m.heard, m.agn 12, ()), ()) := by
  obtain ⟨h1, h2, h3, h4, h5, h6, h7, h8, h9⟩ := Mo.ok_sent h
  have hlen : ∀ x : Nat, (m.keep.take x).length ≤ 32 := by intro x; simp; omega
  cases he : m.early with
  | nil =>
    have hel : (m.early.length : Int) = 0 := by rw [he]; rfl
    by_cases a : 12 < m.sent
    · have hm : min (min m.sent 12) m.sent = 12 := by omega
      have := hlen (12 : Int).toNat
      simp (disch := omega) only [decide_true, decide_false, decide_eq_true, decide_eq_false, if_pos, if_neg, wr, cond_true, cond_false, Bool.not_true, Bool.not_false, Bool.and_true, Bool.true_and, Bool.and_false, Bool.false_and, Bool.or_true, Bool.true_or, Bool.or_false, Bool.false_or, Option.bind_some, Int.toNat_natCast, Bool.and_self, Bool.or_self, Bool.cond_self, reduceIte, inR_eq, big_eq, beq_self_eq_true, List.nil_append, List.append_nil, List.length_nil, List.length_append, F_spec_MouthAgain, s_MouthOk, h, s_l1In, inn, hel, Mo.agn, he, hm, List.length_nil, Int.natCast_zero, Nat.zero_add]
    · have hm : min (min m.sent 12) m.sent = m.sent := by omega
      have := hlen m.sent.toNat
      simp (disch := omega) only [decide_true, decide_false, decide_eq_true, decide_eq_false, if_pos, if_neg, wr, cond_true, cond_false, Bool.not_true, Bool.not_false, Bool.and_true, Bool.true_and, Bool.and_false, Bool.false_and, Bool.or_true, Bool.true_or, Bool.or_false, Bool.false_or, Option.bind_some, Int.toNat_natCast, Bool.and_self, Bool.or_self, Bool.cond_self, reduceIte, inR_eq, big_eq, beq_self_eq_true, List.nil_append, List.append_nil, List.length_nil, List.length_append, F_spec_MouthAgain, s_MouthOk, h, s_l1In, inn, hel, Mo.agn, he, hm, List.length_nil, Int.natCast_zero, Nat.zero_add]
  | cons r l =>
    have hel : m.early.length = l.length + 1 := by rw [he]; rfl
    have hr := earlyOk_mem h9 r (by rw [he]; simp)
    have hrd : rdI (0, 0) (r :: l) (0 : Int).toNat = r := rfl
    by_cases a : 12 < m.sent <;> by_cases b : r.1 - m.heard < min 12 m.sent
    all_goals
      have hm1 := hlen (12 : Int).toNat
      have hm2 := hlen m.sent.toNat
      have hm3 := hlen (r.1 - m.heard).toNat
      have hm : min (min m.sent 12) (r.1 - m.heard) = (if r.1 - m.heard < min 12 m.sent then r.1 - m.heard else if 12 < m.sent then 12 else m.sent) := by split <;> (try split) <;> omega
      simp (disch := omega) only [decide_true, decide_false, decide_eq_true, decide_eq_false, if_pos, if_neg, wr, cond_true, cond_false, Bool.not_true, Bool.not_false, Bool.and_true, Bool.true_and, Bool.and_false, Bool.false_and, Bool.or_true, Bool.true_or, Bool.or_false, Bool.false_or, Option.bind_some, Int.toNat_natCast, Bool.and_self, Bool.or_self, Bool.cond_self, reduceIte, inR_eq, big_eq, beq_self_eq_true, List.nil_append, List.append_nil, List.length_nil, List.length_append, F_spec_MouthAgain, s_MouthOk, h, s_l1In, inn, hel, Mo.agn, he, hm, hrd, List.length_cons, Nat.zero_add]
end Go.VI.EwcVi
set_option linter.unusedVariables false
set_option linter.unusedSimpArgs false
namespace Go.VI.EwcVi
open Go Go.VI Go.VI.Ns

theorem s_EndTick {e : Ed} (h : e.Is) {now : Int} (hn : 0 ≤ now ∧ now ≤ 900000) : F_spec_EndTick e.e now = some (((e.tick now).e, (e.tickL now).map Sg.e, ()), ()) := by
  have hc := Ck.ok_bd h.pulse
  obtain ⟨g1, g2, g3, g4, g5, g6, g7, g8, g9⟩ := Mo.ok_sent h.out
  have ht := h.tries
  by_cases h1 : e.due = 0
  · simp (disch := omega) only [decide_true, decide_false, decide_eq_true, decide_eq_false, if_pos, if_neg, wr, cond_true, cond_false, Bool.not_true, Bool.not_false, Bool.and_true, Bool.true_and, Bool.and_false, Bool.false_and, Bool.or_true, Bool.true_or, Bool.or_false, Bool.false_or, Option.bind_some, Int.toNat_natCast, Bool.and_self, Bool.or_self, Bool.cond_self, reduceIte, inR_eq, big_eq, beq_self_eq_true, List.nil_append, List.append_nil, List.length_nil, List.length_append, F_spec_EndTick, s_EndOk_is h, s_l1In, inn, s_l15Copy e (Is.small h).1, Ed.tick, Ed.tickL, true_or, List.map_nil]
  by_cases h2 : now < e.due
  · simp (disch := omega) only [decide_true, decide_false, decide_eq_true, decide_eq_false, if_pos, if_neg, wr, cond_true, cond_false, Bool.not_true, Bool.not_false, Bool.and_true, Bool.true_and, Bool.and_false, Bool.false_and, Bool.or_true, Bool.true_or, Bool.or_false, Bool.false_or, Option.bind_some, Int.toNat_natCast, Bool.and_self, Bool.or_self, Bool.cond_self, reduceIte, inR_eq, big_eq, beq_self_eq_true, List.nil_append, List.append_nil, List.length_nil, List.length_append, F_spec_EndTick, s_EndOk_is h, s_l1In, inn, s_l15Copy e (Is.small h).1, Ed.tick, Ed.tickL, or_true, List.map_nil]
  have h12 : ¬ (e.due = 0 ∨ now < e.due) := by omega
  by_cases h3 : e.tries = 8
  · simp (disch := omega) only [decide_true, decide_false, decide_eq_true, decide_eq_false, if_pos, if_neg, wr, cond_true, cond_false, Bool.not_true, Bool.not_false, Bool.and_true, Bool.true_and, Bool.and_false, Bool.false_and, Bool.or_true, Bool.true_or, Bool.or_false, Bool.false_or, Option.bind_some, Int.toNat_natCast, Bool.and_self, Bool.or_self, Bool.cond_self, reduceIte, inR_eq, big_eq, beq_self_eq_true, List.nil_append, List.append_nil, List.length_nil, List.length_append, F_spec_EndTick, s_EndOk_is h, s_l1In, inn, s_l15Copy e (Is.small h).1, Ed.tick, Ed.tickL, h12, List.map_nil]
  have hop : e.opn = true := by
    cases ho : e.opn with
    | true => rfl
    | false => exact absurd (h.calm ho).1 h1
  have hst : e.st = 2 ∨ e.st = 3 ∨ e.st = 4 := by
    by_cases a : e.st = 2
    · exact .inl a
    by_cases b : e.st = 3
    · exact .inr (.inl b)
    by_cases c : e.st = 4
    · exact .inr (.inr c)
    · simp [Ed.opn, a, b, c] at hop
  have hl := s_ClockLate h.pulse
  have hw : 4 ≤ e.pulse.late.wait ∧ e.pulse.late.wait ≤ 200 := by simp only [Ck.late]; omega
  have hg : e.goes now = { e with pulse := e.pulse.late, due := now + e.pulse.late.wait, tries := e.tries + 1 } := rfl
  have hf := s_l15First (e.goes now) h.ear
  have hla := s_l15Last (e.goes now) h.ear h.out
  have hsg := fun p => s_l15Segment (e.goes now) p h.ear
  have ha := s_MouthAgain h.out
  have e1 : e.tick now = e.goes now := by unfold Ed.tick; rw [if_neg h12, if_neg h3]
  rw [hg] at hf hla hsg
  have e2 : e.tickL now = if e.st = 2 ∨ e.st = 3 then [(e.goes now).fst] else
      if 0 < e.out.sent then [{ (e.goes now).seg e.out.heard with data := e.out.agn 12 }] else
        if e.ltold && !e.lheard then [(e.goes now).lst] else [(e.goes now).seg (e.out.heard - 1)] := by unfold Ed.tickL; rw [if_neg h12, if_neg h3]
  rcases hst with a | a | a
  · have e3 : e.tickL now = [(e.goes now).fst] := by rw [e2, if_pos (.inl a)]
    simp (disch := omega) only [decide_true, decide_false, decide_eq_true, decide_eq_false, if_pos, if_neg, wr, cond_true, cond_false, Bool.not_true, Bool.not_false, Bool.and_true, Bool.true_and, Bool.and_false, Bool.false_and, Bool.or_true, Bool.true_or, Bool.or_false, Bool.false_or, Option.bind_some, Int.toNat_natCast, Bool.and_self, Bool.or_self, Bool.cond_self, reduceIte, inR_eq, big_eq, beq_self_eq_true, List.nil_append, List.append_nil, List.length_nil, List.length_append, F_spec_EndTick, s_EndOk_is h, s_l1In, inn, s_l15Copy e (Is.small h).1, h12, hl, e1, e3]
    simp only [Ed.e] at hf
    simp (disch := omega) only [decide_true, decide_false, decide_eq_true, decide_eq_false, if_pos, if_neg, wr, cond_true, cond_false, Bool.not_true, Bool.not_false, Bool.and_true, Bool.true_and, Bool.and_false, Bool.false_and, Bool.or_true, Bool.true_or, Bool.or_false, Bool.false_or, Option.bind_some, Int.toNat_natCast, Bool.and_self, Bool.or_self, Bool.cond_self, reduceIte, inR_eq, big_eq, beq_self_eq_true, List.nil_append, List.append_nil, List.length_nil, List.length_append, hf]
    rfl
  · have e3 : e.tickL now = [(e.goes now).fst] := by rw [e2, if_pos (.inr a)]
    simp (disch := omega) only [decide_true, decide_false, decide_eq_true, decide_eq_false, if_pos, if_neg, wr, cond_true, cond_false, Bool.not_true, Bool.not_false, Bool.and_true, Bool.true_and, Bool.and_false, Bool.false_and, Bool.or_true, Bool.true_or, Bool.or_false, Bool.false_or, Option.bind_some, Int.toNat_natCast, Bool.and_self, Bool.or_self, Bool.cond_self, reduceIte, inR_eq, big_eq, beq_self_eq_true, List.nil_append, List.append_nil, List.length_nil, List.length_append, F_spec_EndTick, s_EndOk_is h, s_l1In, inn, s_l15Copy e (Is.small h).1, h12, hl, e1, e3]
    simp only [Ed.e] at hf
    simp (disch := omega) only [decide_true, decide_false, decide_eq_true, decide_eq_false, if_pos, if_neg, wr, cond_true, cond_false, Bool.not_true, Bool.not_false, Bool.and_true, Bool.true_and, Bool.and_false, Bool.false_and, Bool.or_true, Bool.true_or, Bool.or_false, Bool.false_or, Option.bind_some, Int.toNat_natCast, Bool.and_self, Bool.or_self, Bool.cond_self, reduceIte, inR_eq, big_eq, beq_self_eq_true, List.nil_append, List.append_nil, List.length_nil, List.length_append, hf]
    rfl
  · have a23 : ¬ (e.st = 2 ∨ e.st = 3) := by omega
    rw [if_neg a23] at e2
    by_cases hs : 0 < e.out.sent
    · rw [if_pos hs] at e2
      simp (disch := omega) only [decide_true, decide_false, decide_eq_true, decide_eq_false, if_pos, if_neg, wr, cond_true, cond_false, Bool.not_true, Bool.not_false, Bool.and_true, Bool.true_and, Bool.and_false, Bool.false_and, Bool.or_true, Bool.true_or, Bool.or_false, Bool.false_or, Option.bind_some, Int.toNat_natCast, Bool.and_self, Bool.or_self, Bool.cond_self, reduceIte, inR_eq, big_eq, beq_self_eq_true, List.nil_append, List.append_nil, List.length_nil, List.length_append, F_spec_EndTick, s_EndOk_is h, s_l1In, inn, s_l15Copy e (Is.small h).1, h12, hl, e1, e2, ha]
      have hsg := hsg e.out.heard
      simp only [Ed.e] at hsg
      simp (disch := omega) only [decide_true, decide_false, decide_eq_true, decide_eq_false, if_pos, if_neg, wr, cond_true, cond_false, Bool.not_true, Bool.not_false, Bool.and_true, Bool.true_and, Bool.and_false, Bool.false_and, Bool.or_true, Bool.true_or, Bool.or_false, Bool.false_or, Option.bind_some, Int.toNat_natCast, Bool.and_self, Bool.or_self, Bool.cond_self, reduceIte, inR_eq, big_eq, beq_self_eq_true, List.nil_append, List.append_nil, List.length_nil, List.length_append, hsg]
      rfl
    · rw [if_neg hs] at e2
      cases hq : (e.ltold && !e.lheard) with
      | true =>
        simp only [hq, if_true] at e2
        have hq' : e.ltold = true ∧ e.lheard = false := by simpa using hq
        simp (disch := omega) only [decide_true, decide_false, decide_eq_true, decide_eq_false, if_pos, if_neg, wr, cond_true, cond_false, Bool.not_true, Bool.not_false, Bool.and_true, Bool.true_and, Bool.and_false, Bool.false_and, Bool.or_true, Bool.true_or, Bool.or_false, Bool.false_or, Option.bind_some, Int.toNat_natCast, Bool.and_self, Bool.or_self, Bool.cond_self, reduceIte, inR_eq, big_eq, beq_self_eq_true, List.nil_append, List.append_nil, List.length_nil, List.length_append, F_spec_EndTick, s_EndOk_is h, s_l1In, inn, s_l15Copy e (Is.small h).1, h12, hl, e1, e2, hq'.1, hq'.2]
        simp only [Ed.e, hq'.1, hq'.2] at hla
        simp (disch := omega) only [decide_true, decide_false, decide_eq_true, decide_eq_false, if_pos, if_neg, wr, cond_true, cond_false, Bool.not_true, Bool.not_false, Bool.and_true, Bool.true_and, Bool.and_false, Bool.false_and, Bool.or_true, Bool.true_or, Bool.or_false, Bool.false_or, Option.bind_some, Int.toNat_natCast, Bool.and_self, Bool.or_self, Bool.cond_self, reduceIte, inR_eq, big_eq, beq_self_eq_true, List.nil_append, List.append_nil, List.length_nil, List.length_append, hla]
        simp [hg, hq'.1, hq'.2, hq]
      | false =>
        simp only [hq, Bool.false_eq_true, if_false] at e2
        have hq' : (bif e.ltold then !e.lheard else false) = false := by rw [Bool.cond_false_right, hq]
        simp (disch := omega) only [decide_true, decide_false, decide_eq_true, decide_eq_false, if_pos, if_neg, wr, cond_true, cond_false, Bool.not_true, Bool.not_false, Bool.and_true, Bool.true_and, Bool.and_false, Bool.false_and, Bool.or_true, Bool.true_or, Bool.or_false, Bool.false_or, Option.bind_some, Int.toNat_natCast, Bool.and_self, Bool.or_self, Bool.cond_self, reduceIte, inR_eq, big_eq, beq_self_eq_true, List.nil_append, List.append_nil, List.length_nil, List.length_append, F_spec_EndTick, s_EndOk_is h, s_l1In, inn, s_l15Copy e (Is.small h).1, h12, hl, e1, e2, hq']
        have hsg := hsg (e.out.heard - 1)
        simp only [Ed.e] at hsg
        simp (disch := omega) only [decide_true, decide_false, decide_eq_true, decide_eq_false, if_pos, if_neg, wr, cond_true, cond_false, Bool.not_true, Bool.not_false, Bool.and_true, Bool.true_and, Bool.and_false, Bool.false_and, Bool.or_true, Bool.true_or, Bool.or_false, Bool.false_or, Option.bind_some, Int.toNat_natCast, Bool.and_self, Bool.or_self, Bool.cond_self, reduceIte, inR_eq, big_eq, beq_self_eq_true, List.nil_append, List.append_nil, List.length_nil, List.length_append, hsg]
        rfl
theorem s_EndClose {e : Ed} (h : e.Is) {now : Int} (hn : 0 ≤ now ∧ now ≤ 900000) : F_spec_EndClose e.e now = some (((e.close now).e, e.closeL.map Sg.e, ()), ()) := by
  have hc := Ck.ok_bd h.pulse
  obtain ⟨g1, g2, g3, g4, g5, g6, g7, g8, g9⟩ := Mo.ok_sent h.out
  have hla := s_l15Last { e with closed := true, ltold := true } h.ear h.out
  have har := s_l15Arm { e with closed := true, ltold := true } now false ⟨g1, g2⟩ (by omega) (by simp only; omega)
  have har2 := s_l15Arm { e with closed := true } now false ⟨g1, g2⟩ (by omega) (by simp only; omega)
  simp only [Ed.e] at hla har har2
  have hq : (bif (bif decide (e.st = 4) then !e.ltold else false) then decide (e.out.sent = e.out.keep.length) else false) = e.lasts := by
    rw [Bool.cond_false_right, Bool.cond_false_right]; rfl
  cases hl : e.lasts with
  | true =>
    rw [hl] at hq
    simp (disch := omega) only [decide_true, decide_false, decide_eq_true, decide_eq_false, if_pos, if_neg, wr, cond_true, cond_false, Bool.not_true, Bool.not_false, Bool.and_true, Bool.true_and, Bool.and_false, Bool.false_and, Bool.or_true, Bool.true_or, Bool.or_false, Bool.false_or, Option.bind_some, Int.toNat_natCast, Bool.and_self, Bool.or_self, Bool.cond_self, reduceIte, inR_eq, big_eq, beq_self_eq_true, List.nil_append, List.append_nil, List.length_nil, List.length_append, F_spec_EndClose, s_EndOk_is h, s_l1In, inn, s_l15Copy e (Is.small h).1, hq, hla, har, Ed.close, Ed.closeL, hl, List.length_cons, Nat.zero_add]
    rfl
  | false =>
    rw [hl] at hq
    simp (disch := omega) only [decide_true, decide_false, decide_eq_true, decide_eq_false, if_pos, if_neg, wr, cond_true, cond_false, Bool.not_true, Bool.not_false, Bool.and_true, Bool.true_and, Bool.and_false, Bool.false_and, Bool.or_true, Bool.true_or, Bool.or_false, Bool.false_or, Option.bind_some, Int.toNat_natCast, Bool.and_self, Bool.or_self, Bool.cond_self, reduceIte, inR_eq, big_eq, beq_self_eq_true, List.nil_append, List.append_nil, List.length_nil, List.length_append, F_spec_EndClose, s_EndOk_is h, s_l1In, inn, s_l15Copy e (Is.small h).1, hq, har2, Ed.close, Ed.closeL, hl, Bool.false_eq_true, List.map_nil]
theorem Ed.bytes_len : ∀ (k : Nat) (e : Ed) (l : List Sg), (Ed.bytes k e l).2.length ≤ l.length + k
  | 0, e, l => by simp [Ed.bytes]
  | k + 1, e, l => by
    unfold Ed.bytes
    split
    · refine Nat.le_trans (Ed.bytes_len k _ _) ?_
      simp only [List.length_append, List.length_singleton]
      omega
    · simp only []
      omega
theorem s_l15Flush (e : Ed) (ho : e.out.ok = true) (he : e.ear.ok = true) : F_spec_l15Flush e.e = some ((e.flush.e, e.flushL.map Sg.e, ()), ()) := by
  have hb := s_l15Bytes e ho he
  obtain ⟨k1, k2, k3⟩ := Ed.bytes_keep 40 e []
  have hlen : e.tellB.2.length ≤ 40 := by have := Ed.bytes_len 40 e []; simpa [Ed.tellB] using this
  have k1 : e.tellB.1.ear = e.ear := k1
  have hla := s_l15Last { e.tellB.1 with ltold := true } (by show e.tellB.1.ear.ok = true; rw [k1]; exact he) (k3 ho)
  simp only [Ed.e] at hla
  have hq : (bif (bif (bif decide (e.tellB.1.st = 4) then e.tellB.1.closed else false) then !e.tellB.1.ltold else false) then decide (e.tellB.1.out.sent = e.tellB.1.out.keep.length) else false) = decide (e.tellB.1.st = 4 ∧ e.tellB.1.closed = true ∧ e.tellB.1.ltold = false ∧ e.tellB.1.out.sent = e.tellB.1.out.keep.length) := by
    rw [Bool.cond_false_right, Bool.cond_false_right, Bool.cond_false_right, Bool.eq_iff_iff]
    simp [and_assoc]
  by_cases hc : e.tellB.1.st = 4 ∧ e.tellB.1.closed = true ∧ e.tellB.1.ltold = false ∧ e.tellB.1.out.sent = e.tellB.1.out.keep.length
  · rw [decide_eq_true hc] at hq
    have f1 : e.flush = { e.tellB.1 with ltold := true } := by unfold Ed.flush; rw [if_pos hc]
    have f2 : e.flushL = e.tellB.2 ++ [({ e.tellB.1 with ltold := true } : Ed).lst] := by unfold Ed.flushL; rw [if_pos hc]
    simp only [F_spec_l15Flush, hb, Option.bind_some, hq, cond_true, hla]
    simp (disch := omega) only [decide_true, decide_false, decide_eq_true, decide_eq_false, if_pos, if_neg, wr, cond_true, cond_false, Bool.not_true, Bool.not_false, Bool.and_true, Bool.true_and, Bool.and_false, Bool.false_and, Bool.or_true, Bool.true_or, Bool.or_false, Bool.false_or, Option.bind_some, Int.toNat_natCast, Bool.and_self, Bool.or_self, Bool.cond_self, reduceIte, inR_eq, big_eq, beq_self_eq_true, List.nil_append, List.append_nil, List.length_nil, List.length_append, f1, f2, List.length_map, List.length_cons, List.map_append, List.map_cons, List.map_nil, Nat.zero_add]
  · rw [decide_eq_false hc] at hq
    have f1 : e.flush = e.tellB.1 := by unfold Ed.flush; rw [if_neg hc]
    have f2 : e.flushL = e.tellB.2 := by unfold Ed.flushL; rw [if_neg hc]
    simp (disch := omega) only [decide_true, decide_false, decide_eq_true, decide_eq_false, if_pos, if_neg, wr, cond_true, cond_false, Bool.not_true, Bool.not_false, Bool.and_true, Bool.true_and, Bool.and_false, Bool.false_and, Bool.or_true, Bool.true_or, Bool.or_false, Bool.false_or, Option.bind_some, Int.toNat_natCast, Bool.and_self, Bool.or_self, Bool.cond_self, reduceIte, inR_eq, big_eq, beq_self_eq_true, List.nil_append, List.append_nil, List.length_nil, List.length_append, F_spec_l15Flush, hb, hq, f1, f2]
theorem s_SegmentLong (s : Sg) (h : s.data.length ≤ 1000) : F_spec_SegmentLong s.e = some ((s.long, ()), ()) := by
  cases h1 : s.first <;> cases h2 : s.last <;> simp (disch := omega) only [decide_true, decide_false, decide_eq_true, decide_eq_false, if_pos, if_neg, wr, cond_true, cond_false, Bool.not_true, Bool.not_false, Bool.and_true, Bool.true_and, Bool.and_false, Bool.false_and, Bool.or_true, Bool.true_or, Bool.or_false, Bool.false_or, Option.bind_some, Int.toNat_natCast, Bool.and_self, Bool.or_self, Bool.cond_self, reduceIte, inR_eq, big_eq, beq_self_eq_true, List.nil_append, List.append_nil, List.length_nil, List.length_append, F_spec_SegmentLong, Sg.long, h1, h2, Bool.false_eq_true] <;> simp
theorem s_SeqLess (a b : Int) : F_spec_SeqLess a b = some ((seqLess a b, ()), ()) := by
  have := seqOf_in a
  have := seqOf_in b
  simp (disch := omega) only [decide_true, decide_false, decide_eq_true, decide_eq_false, if_pos, if_neg, wr, cond_true, cond_false, Bool.not_true, Bool.not_false, Bool.and_true, Bool.true_and, Bool.and_false, Bool.false_and, Bool.or_true, Bool.true_or, Bool.or_false, Bool.false_or, Option.bind_some, Int.toNat_natCast, Bool.and_self, Bool.or_self, Bool.cond_self, reduceIte, inR_eq, big_eq, beq_self_eq_true, List.nil_append, List.append_nil, List.length_nil, List.length_append, F_spec_SeqLess, s_SeqOf, seqLess, inn, Bool.cond_false_right]
  have : decide (seqOf (seqOf b - seqOf a) < 32768) = decide (seqOf (seqOf b - seqOf a) ≤ 32767) := by rw [Bool.eq_iff_iff]; simp; omega
  rw [this]
theorem seqPlace_bd {near : Int} (h : 0 ≤ near ∧ near ≤ 1000000) (seq : Int) : near - 32768 ≤ seqPlace near seq ∧ seqPlace near seq ≤ near + 32767 := by
  unfold seqPlace
  have := seqOf_in (seq - seqOf near)
  split
  · split <;> omega
  · omega
theorem s_SeqPlace (near seq : Int) : F_spec_SeqPlace near seq = some ((seqPlace near seq, ()), ()) := by
  have h0 : (!(inn near 0 1000000) || !(inn seq 0 65535)) = !(inn near 0 1000000 && inn seq 0 65535) := by rw [Bool.not_and]
  cases h : (inn near 0 1000000 && inn seq 0 65535) with
  | true =>
    rw [h] at h0
    have h' := h
    simp only [Bool.and_eq_true, inn_iff] at h'
    have := seqOf_in near
    have := seqOf_in (seq - seqOf near)
    by_cases hc : 32768 ≤ seqOf (seq - seqOf near)
    · simp (disch := omega) only [decide_true, decide_false, decide_eq_true, decide_eq_false, if_pos, if_neg, wr, cond_true, cond_false, Bool.not_true, Bool.not_false, Bool.and_true, Bool.true_and, Bool.and_false, Bool.false_and, Bool.or_true, Bool.true_or, Bool.or_false, Bool.false_or, Option.bind_some, Int.toNat_natCast, Bool.and_self, Bool.or_self, Bool.cond_self, reduceIte, inR_eq, big_eq, beq_self_eq_true, List.nil_append, List.append_nil, List.length_nil, List.length_append, F_spec_SeqPlace, s_l1In, s_SeqOf, Bool.cond_true_left, h0, seqPlace, h]
    · simp (disch := omega) only [decide_true, decide_false, decide_eq_true, decide_eq_false, if_pos, if_neg, wr, cond_true, cond_false, Bool.not_true, Bool.not_false, Bool.and_true, Bool.true_and, Bool.and_false, Bool.false_and, Bool.or_true, Bool.true_or, Bool.or_false, Bool.false_or, Option.bind_some, Int.toNat_natCast, Bool.and_self, Bool.or_self, Bool.cond_self, reduceIte, inR_eq, big_eq, beq_self_eq_true, List.nil_append, List.append_nil, List.length_nil, List.length_append, F_spec_SeqPlace, s_l1In, s_SeqOf, Bool.cond_true_left, h0, seqPlace, h]
  | false =>
    rw [h] at h0
    simp (disch := omega) only [decide_true, decide_false, decide_eq_true, decide_eq_false, if_pos, if_neg, wr, cond_true, cond_false, Bool.not_true, Bool.not_false, Bool.and_true, Bool.true_and, Bool.and_false, Bool.false_and, Bool.or_true, Bool.true_or, Bool.or_false, Bool.false_or, Option.bind_some, Int.toNat_natCast, Bool.and_self, Bool.or_self, Bool.cond_self, reduceIte, inR_eq, big_eq, beq_self_eq_true, List.nil_append, List.append_nil, List.length_nil, List.length_append, F_spec_SeqPlace, s_l1In, s_SeqOf, Bool.cond_true_left, h0, seqPlace, h, Bool.false_eq_true]
end Go.VI.EwcVi
set_option linter.unusedVariables false
set_option linter.unusedSimpArgs false
namespace Go.VI.EwcVi
open Go Go.VI Go.VI.Ns

theorem s_SegmentOk_l (s : Sg) : ∀ (suf pre : List (Int × Int)) (n : Nat) (k : Int), s.ranges = pre ++ suf → suf.length < n → pre.length + suf.length ≤ 1000 → k = pre.length →
    L_spec_SegmentOk_4 n ((), k, s.e, ()) = some ((suf.all (fun r => inn r.1 0 65535 && inn r.2 0 65535) && (s.heard || (decide (s.ack = 0) && decide (s.room = 0) && decide (s.ranges.length = 0))) && (!s.reset || (!s.first && !s.last && decide (s.data.length = 0))), ()), ())
  | [], pre, 0, k, he, hn, hl, hk => by simp at hn
  | [], pre, n + 1, k, he, hn, hl, hk => by
    have hlen : s.ranges.length = pre.length := by rw [he]; simp
    have h1 : (bif (!s.heard) then (bif (bif (!decide (s.ack = 0)) then true else (!decide (s.room = 0))) then true else (decide ((0 : Int) < (s.ranges.length : Int)))) else false) = !(s.heard || (decide (s.ack = 0) && decide (s.room = 0) && decide (s.ranges.length = 0))) := by
      have : decide ((0 : Int) < (s.ranges.length : Int)) = !decide (s.ranges.length = 0) := by rw [Bool.eq_iff_iff]; simp; exact List.length_pos_iff
      rw [this]
      cases s.heard <;> cases decide (s.ack = 0) <;> cases decide (s.room = 0) <;> cases decide (s.ranges.length = 0) <;> rfl
    have h2 : (bif (!s.reset) then true else (bif (bif (!s.first) then (!s.last) else false) then (decide ((s.data.length : Int) = (0 : Int))) else false)) = (!s.reset || (!s.first && !s.last && decide (s.data.length = 0))) := by
      have : decide ((s.data.length : Int) = 0) = decide (s.data.length = 0) := by rw [Bool.eq_iff_iff]; simp
      rw [this]
      cases s.reset <;> cases s.first <;> cases s.last <;> rfl
    have hd : decide (k < (s.ranges.length : Int)) = false := decide_eq_false (by omega)
    simp only [L_spec_SegmentOk_4, hd, cond_false, h1, h2, List.all_nil, Bool.true_and]
    cases (s.heard || (decide (s.ack = 0) && decide (s.room = 0) && decide (s.ranges.length = 0))) <;> rfl
  | x :: suf, pre, 0, k, he, hn, hl, hk => by simp at hn
  | x :: suf, pre, n + 1, k, he, hn, hl, hk => by
    have hlen : s.ranges.length = pre.length + (suf.length + 1) := by rw [he]; simp
    simp only [List.length_cons] at hl hn
    have hx : rdI (0, 0) s.ranges k.toNat = x := by rw [he, hk, Int.toNat_natCast]; exact rd_app _ _ _ _
    have ih := s_SegmentOk_l s suf (pre ++ [x]) n (k + 1) (by simp [he]) (by omega) (by simp; omega) (by simp; omega)
    cases h1 : inn x.1 0 65535
    · simp (disch := omega) only [decide_true, decide_false, decide_eq_true, decide_eq_false, if_pos, if_neg, wr, cond_true, cond_false, Bool.not_true, Bool.not_false, Bool.and_true, Bool.true_and, Bool.and_false, Bool.false_and, Bool.or_true, Bool.true_or, Bool.or_false, Bool.false_or, Option.bind_some, Int.toNat_natCast, Bool.and_self, Bool.or_self, Bool.cond_self, reduceIte, inR_eq, big_eq, beq_self_eq_true, List.nil_append, List.append_nil, List.length_nil, List.length_append, L_spec_SegmentOk_4, s_l1In, hx, h1, List.all_cons]
    cases h2 : inn x.2 0 65535
    · simp (disch := omega) only [decide_true, decide_false, decide_eq_true, decide_eq_false, if_pos, if_neg, wr, cond_true, cond_false, Bool.not_true, Bool.not_false, Bool.and_true, Bool.true_and, Bool.and_false, Bool.false_and, Bool.or_true, Bool.true_or, Bool.or_false, Bool.false_or, Option.bind_some, Int.toNat_natCast, Bool.and_self, Bool.or_self, Bool.cond_self, reduceIte, inR_eq, big_eq, beq_self_eq_true, List.nil_append, List.append_nil, List.length_nil, List.length_append, L_spec_SegmentOk_4, s_l1In, hx, h1, h2, List.all_cons]
    · simp (disch := omega) only [decide_true, decide_false, decide_eq_true, decide_eq_false, if_pos, if_neg, wr, cond_true, cond_false, Bool.not_true, Bool.not_false, Bool.and_true, Bool.true_and, Bool.and_false, Bool.false_and, Bool.or_true, Bool.true_or, Bool.or_false, Bool.false_or, Option.bind_some, Int.toNat_natCast, Bool.and_self, Bool.or_self, Bool.cond_self, reduceIte, inR_eq, big_eq, beq_self_eq_true, List.nil_append, List.append_nil, List.length_nil, List.length_append, L_spec_SegmentOk_4, s_l1In, hx, h1, h2, List.all_cons, ih]
theorem s_SegmentOk (s : Sg) : F_spec_SegmentOk s.e = some ((s.ok, ()), ()) := by
  have d1 : decide ((2 : Int) < (s.ranges.length : Int)) = !decide (s.ranges.length ≤ 2) := by rw [Bool.eq_iff_iff]; simp; omega
  have d2 : decide ((12 : Int) < (s.data.length : Int)) = !decide (s.data.length ≤ 12) := by rw [Bool.eq_iff_iff]; simp; omega
  simp only [F_spec_SegmentOk, s_l1In, Sg.ok, Bool.cond_true_left, d1, d2]
  cases inn s.fr 1 255
  · rfl
  cases inn s.to 1 255
  · rfl
  cases inn s.seq 0 65535
  · rfl
  cases inn s.ack 0 65535
  · rfl
  cases inn s.room 0 255
  · rfl
  by_cases h : s.ranges.length ≤ 2
  · by_cases h2 : s.data.length ≤ 12
    · have := s_SegmentOk_l s s.ranges [] fuel 0 rfl (by rw [fuel_eq]; omega) (by simp; omega) rfl
      rw [decide_eq_true h, decide_eq_true h2]
      simp only [Bool.not_true, Bool.or_false, cond_false, Bool.true_and, this]
    · rw [decide_eq_true h, decide_eq_false h2]
      rfl
  · rw [decide_eq_false h]
    rfl
theorem s_MouthHear_l (m : Mo) (zz : TMouth) (at_ nn : Int) (ha : 0 ≤ at_ ∧ at_ ≤ 1000100) (hs : 0 ≤ m.sent ∧ m.sent ≤ 1000) : ∀ (suf pre acc : List (Int × Int)) (n : Nat) (k last : Int), suf.length < n → pre.length + suf.length ≤ 1000000000 → acc.length ≤ 2 → k = pre.length →
    ((acc = [] ∧ last = at_) ∨ ∃ p y, acc = p ++ [y] ∧ last = y.2 ∧ at_ ≤ y.2) →
    L_spec_MouthHear_13 n (at_, pre ++ suf, (), (), nn, k, zz, ({ m with early := acc } : Mo).e, ()) = some (if 1000000 < at_ then (Mo.zero.e, 0, ()) else (({ m with early := acc ++ pickR (at_ + m.sent) last (2 - acc.length) suf } : Mo).e, nn, ()), ())
  | [], pre, acc, 0, k, last, hn, hl, hacc, hk, hp => by simp at hn
  | [], pre, acc, n + 1, k, last, hn, hl, hacc, hk, hp => by
    by_cases hc : 1000000 < at_
    · simp (disch := omega) only [decide_true, decide_false, decide_eq_true, decide_eq_false, if_pos, if_neg, wr, cond_true, cond_false, Bool.not_true, Bool.not_false, Bool.and_true, Bool.true_and, Bool.and_false, Bool.false_and, Bool.or_true, Bool.true_or, Bool.or_false, Bool.false_or, Option.bind_some, Int.toNat_natCast, Bool.and_self, Bool.or_self, Bool.cond_self, reduceIte, inR_eq, big_eq, beq_self_eq_true, List.nil_append, List.append_nil, List.length_nil, List.length_append, L_spec_MouthHear_13, Mo.zero]
    · simp (disch := omega) only [decide_true, decide_false, decide_eq_true, decide_eq_false, if_pos, if_neg, wr, cond_true, cond_false, Bool.not_true, Bool.not_false, Bool.and_true, Bool.true_and, Bool.and_false, Bool.false_and, Bool.or_true, Bool.true_or, Bool.or_false, Bool.false_or, Option.bind_some, Int.toNat_natCast, Bool.and_self, Bool.or_self, Bool.cond_self, reduceIte, inR_eq, big_eq, beq_self_eq_true, List.nil_append, List.append_nil, List.length_nil, List.length_append, L_spec_MouthHear_13, pickR]
  | x :: suf, pre, acc, 0, k, last, hn, hl, hacc, hk, hp => by simp at hn
  | x :: suf, pre, acc, n + 1, k, last, hn, hl, hacc, hk, hp => by
    simp only [List.length_cons] at hl hn
    have hlen : (pre ++ x :: suf).length = pre.length + (suf.length + 1) := by simp
    have hx : rdI (0, 0) (pre ++ x :: suf) k.toNat = x := by rw [hk, Int.toNat_natCast]; exact rd_app _ _ _ _
    have ih := fun acc last ha hp => s_MouthHear_l m zz at_ nn ‹_› hs suf (pre ++ [x]) acc n (k + 1) last (by omega) (by simp; omega) ha (by simp; omega) hp
    simp only [List.append_assoc, List.singleton_append] at ih
    by_cases hc : last < x.1 ∧ x.1 < x.2 ∧ x.2 ≤ at_ + m.sent ∧ acc.length < 2
    · obtain ⟨c1, c2, c3, c4⟩ := hc
      have ih := ih (acc ++ [x]) x.2 (by simp; omega) (.inr ⟨acc, x, rfl, rfl, by rcases hp with ⟨_, h⟩ | ⟨_, _, _, h, h'⟩ <;> omega⟩)
      have e : pickR (at_ + m.sent) last (2 - acc.length) (x :: suf) = x :: pickR (at_ + m.sent) x.2 (2 - (acc ++ [x]).length) suf := by
        rw [pickR, if_pos ⟨c1, c2, c3, by omega⟩, List.length_append, List.length_singleton]; rfl
      rw [List.append_assoc, List.singleton_append, ← e] at ih
      rcases hp with ⟨h, h'⟩ | ⟨p, y, h, h', h''⟩
      · subst h
        simp only [List.nil_append] at ih ⊢
        simp (disch := omega) only [decide_true, decide_false, decide_eq_true, decide_eq_false, if_pos, if_neg, wr, cond_true, cond_false, Bool.not_true, Bool.not_false, Bool.and_true, Bool.true_and, Bool.and_false, Bool.false_and, Bool.or_true, Bool.true_or, Bool.or_false, Bool.false_or, Option.bind_some, Int.toNat_natCast, Bool.and_self, Bool.or_self, Bool.cond_self, reduceIte, inR_eq, big_eq, beq_self_eq_true, List.nil_append, List.append_nil, List.length_nil, List.length_append, L_spec_MouthHear_13, hx, ih, List.length_cons, Int.natCast_zero, Nat.zero_add]
      · have hpl : acc.length = p.length + 1 := by rw [h]; simp
        have hrd : rdI (0, 0) acc (((acc.length : Int)) - 1).toNat = y := by rw [hpl, h, show (((p.length + 1 : Nat) : Int) - 1).toNat = p.length by omega]; exact rd_app _ _ _ _
        simp (disch := omega) only [decide_true, decide_false, decide_eq_true, decide_eq_false, if_pos, if_neg, wr, cond_true, cond_false, Bool.not_true, Bool.not_false, Bool.and_true, Bool.true_and, Bool.and_false, Bool.false_and, Bool.or_true, Bool.true_or, Bool.or_false, Bool.false_or, Option.bind_some, Int.toNat_natCast, Bool.and_self, Bool.or_self, Bool.cond_self, reduceIte, inR_eq, big_eq, beq_self_eq_true, List.nil_append, List.append_nil, List.length_nil, List.length_append, L_spec_MouthHear_13, hx, ih, List.length_cons, hrd, Nat.zero_add]
    · have e : pickR (at_ + m.sent) last (2 - acc.length) (x :: suf) = pickR (at_ + m.sent) last (2 - acc.length) suf := by
        rw [pickR, if_neg (fun h => hc ⟨h.1, h.2.1, h.2.2.1, by omega⟩)]
      have ih := ih acc last hacc hp
      rw [e]
      rcases hp with ⟨h, h'⟩ | ⟨p, y, h, h', h''⟩
      · subst h
        simp only [List.nil_append, List.length_nil] at ih ⊢ hc
        by_cases c1 : at_ < x.1 <;> by_cases c2 : x.1 < x.2 <;> by_cases c3 : x.2 ≤ at_ + m.sent <;> first | (exfalso; apply hc; omega) | simp (disch := omega) only [decide_true, decide_false, decide_eq_true, decide_eq_false, if_pos, if_neg, wr, cond_true, cond_false, Bool.not_true, Bool.not_false, Bool.and_true, Bool.true_and, Bool.and_false, Bool.false_and, Bool.or_true, Bool.true_or, Bool.or_false, Bool.false_or, Option.bind_some, Int.toNat_natCast, Bool.and_self, Bool.or_self, Bool.cond_self, reduceIte, inR_eq, big_eq, beq_self_eq_true, List.nil_append, List.append_nil, List.length_nil, List.length_append, L_spec_MouthHear_13, hx, ih, List.length_cons, Int.natCast_zero, Nat.zero_add]
      · have hpl : acc.length = p.length + 1 := by rw [h]; simp
        have hrd : rdI (0, 0) acc (((acc.length : Int)) - 1).toNat = y := by rw [hpl, h, show (((p.length + 1 : Nat) : Int) - 1).toNat = p.length by omega]; exact rd_app _ _ _ _
        by_cases c1 : at_ < x.1 <;> by_cases c2 : x.1 < x.2 <;> by_cases c3 : x.2 ≤ at_ + m.sent <;> by_cases c4 : acc.length < 2 <;> by_cases c5 : y.2 < x.1 <;> first | (exfalso; apply hc; omega) | (exfalso; omega) | simp (disch := omega) only [decide_true, decide_false, decide_eq_true, decide_eq_false, if_pos, if_neg, wr, cond_true, cond_false, Bool.not_true, Bool.not_false, Bool.and_true, Bool.true_and, Bool.and_false, Bool.false_and, Bool.or_true, Bool.true_or, Bool.or_false, Bool.false_or, Option.bind_some, Int.toNat_natCast, Bool.and_self, Bool.or_self, Bool.cond_self, reduceIte, inR_eq, big_eq, beq_self_eq_true, List.nil_append, List.append_nil, List.length_nil, List.length_append, L_spec_MouthHear_13, hx, ih, List.length_cons, hrd, Nat.zero_add]
theorem s_MouthHear {m : Mo} (h : m.ok = true) {at_ room : Int} {ranges : List (Int × Int)} (ha : -1000000000 ≤ at_ ∧ at_ ≤ 1000000000) (hr : 0 ≤ room ∧ room ≤ 255) (hl : ranges.length ≤ 1000) :
    F_spec_MouthHear m.e at_ room ranges = some (((m.hear at_ room ranges).e, m.hearN at_, ()), ()) := by
  obtain ⟨g1, g2, g3, g4, g5, g6, g7, g8, g9⟩ := Mo.ok_sent h
  have hc := s_l13Copy m (by omega) (by omega)
  by_cases h1 : at_ < m.heard
  · simp (disch := omega) only [decide_true, decide_false, decide_eq_true, decide_eq_false, if_pos, if_neg, wr, cond_true, cond_false, Bool.not_true, Bool.not_false, Bool.and_true, Bool.true_and, Bool.and_false, Bool.false_and, Bool.or_true, Bool.true_or, Bool.or_false, Bool.false_or, Option.bind_some, Int.toNat_natCast, Bool.and_self, Bool.or_self, Bool.cond_self, reduceIte, inR_eq, big_eq, beq_self_eq_true, List.nil_append, List.append_nil, List.length_nil, List.length_append, F_spec_MouthHear, s_MouthOk, h, s_l1In, inn, hc, Mo.hear, Mo.hearN, true_or]
  by_cases h2 : m.sent < at_ - m.heard
  · simp (disch := omega) only [decide_true, decide_false, decide_eq_true, decide_eq_false, if_pos, if_neg, wr, cond_true, cond_false, Bool.not_true, Bool.not_false, Bool.and_true, Bool.true_and, Bool.and_false, Bool.false_and, Bool.or_true, Bool.true_or, Bool.or_false, Bool.false_or, Option.bind_some, Int.toNat_natCast, Bool.and_self, Bool.or_self, Bool.cond_self, reduceIte, inR_eq, big_eq, beq_self_eq_true, List.nil_append, List.append_nil, List.length_nil, List.length_append, F_spec_MouthHear, s_MouthOk, h, s_l1In, inn, hc, Mo.hear, Mo.hearN, or_true]
  have hlen : (m.keep.drop (at_ - m.heard).toNat).length ≤ 32 := by simp; omega
  have hlo := s_MouthHear_l ⟨at_, m.keep.drop (at_ - m.heard).toNat, m.sent - (at_ - m.heard), room, []⟩ (0, [], 0, 0, []) at_ (at_ - m.heard) (by omega) (by simp only; omega) ranges [] [] fuel 0 at_ (by rw [fuel_eq]; omega) (by simp; omega) (by simp) rfl (.inl ⟨rfl, rfl⟩)
  simp only [List.nil_append] at hlo
  have h12 : ¬ (at_ < m.heard ∨ m.sent < at_ - m.heard) := by omega
  by_cases h3 : 1000000 < at_
  · simp (disch := omega) only [decide_true, decide_false, decide_eq_true, decide_eq_false, if_pos, if_neg, wr, cond_true, cond_false, Bool.not_true, Bool.not_false, Bool.and_true, Bool.true_and, Bool.and_false, Bool.false_and, Bool.or_true, Bool.true_or, Bool.or_false, Bool.false_or, Option.bind_some, Int.toNat_natCast, Bool.and_self, Bool.or_self, Bool.cond_self, reduceIte, inR_eq, big_eq, beq_self_eq_true, List.nil_append, List.append_nil, List.length_nil, List.length_append, F_spec_MouthHear, s_MouthOk, h, s_l1In, inn, hc, Mo.hear, Mo.hearN, h12, Nat.zero_add, hlo]
  · simp (disch := omega) only [decide_true, decide_false, decide_eq_true, decide_eq_false, if_pos, if_neg, wr, cond_true, cond_false, Bool.not_true, Bool.not_false, Bool.and_true, Bool.true_and, Bool.and_false, Bool.false_and, Bool.or_true, Bool.true_or, Bool.or_false, Bool.false_or, Option.bind_some, Int.toNat_natCast, Bool.and_self, Bool.or_self, Bool.cond_self, reduceIte, inR_eq, big_eq, beq_self_eq_true, List.nil_append, List.append_nil, List.length_nil, List.length_append, F_spec_MouthHear, s_MouthOk, h, s_l1In, inn, hc, Mo.hear, Mo.hearN, h12, Nat.zero_add, hlo]
end Go.VI.EwcVi
set_option linter.unusedVariables false
set_option linter.unusedSimpArgs false
namespace Go.VI.EwcVi
open Go Go.VI Go.VI.Ns

theorem Sg.ok_bd {s : Sg} (h : s.ok = true) : (1 ≤ s.fr ∧ s.fr ≤ 255) ∧ (1 ≤ s.to ∧ s.to ≤ 255) ∧ (0 ≤ s.seq ∧ s.seq ≤ 65535) ∧ (0 ≤ s.ack ∧ s.ack ≤ 65535) ∧ (0 ≤ s.room ∧ s.room ≤ 255) ∧ s.ranges.length ≤ 2 ∧ s.data.length ≤ 12 := by
  simp only [Sg.ok, Bool.and_eq_true, inn_iff, decide_eq_true_eq] at h
  obtain ⟨⟨⟨⟨⟨⟨⟨⟨⟨h1, h2⟩, h3⟩, h4⟩, h5⟩, h6⟩, h7⟩, h8⟩, h9⟩, h10⟩ := h
  exact ⟨h1, h2, h3, h4, h5, h6, h7⟩
theorem s_l15Took_l (e : Ed) (s : Sg) (zz : TEnd) (at_ : Int) (on : Bool) (ho : e.out.ok = true) (ha : -1000000 ≤ at_ ∧ at_ ≤ 2000000) (hr : 0 ≤ s.room ∧ s.room ≤ 255) : ∀ (suf pre acc : List (Int × Int)) (n : Nat) (k : Int), s.ranges = pre ++ suf → suf.length < n → acc.length + suf.length ≤ 1000 → pre.length + suf.length ≤ 1000 → k = pre.length →
    L_spec_l15Took_10 n ((), (), (), at_, on, acc, k, e.e, s.e, zz, ()) =
      some ((let m := e.out.hear at_ s.room (acc ++ suf.map fun r => (seqPlace e.out.heard r.1, seqPlace e.out.heard r.2)); if m.ok = true ∧ e.out.heard ≤ m.heard then (({ e with out := m } : Ed).e, on || decide (0 < e.out.hearN at_) || (decide (0 < m.room) && decide (e.out.room = 0)), ()) else (e.e, on, ())), ())
  | [], pre, acc, 0, k, he, hn, hal, hl, hk => by simp at hn
  | [], pre, acc, n + 1, k, he, hn, hal, hl, hk => by
    have hlen : s.ranges.length = pre.length := by rw [he]; simp
    have hh := s_MouthHear ho (at_ := at_) (ranges := acc) (by omega) hr (by simpa using hal)
    simp only [List.map_nil, List.append_nil]
    cases hok : (e.out.hear at_ s.room acc).ok with
    | true =>
      by_cases hc : e.out.heard ≤ (e.out.hear at_ s.room acc).heard
      · simp (disch := omega) only [decide_true, decide_false, decide_eq_true, decide_eq_false, if_pos, if_neg, wr, cond_true, cond_false, Bool.not_true, Bool.not_false, Bool.and_true, Bool.true_and, Bool.and_false, Bool.false_and, Bool.or_true, Bool.true_or, Bool.or_false, Bool.false_or, Option.bind_some, Int.toNat_natCast, Bool.and_self, Bool.or_self, Bool.cond_self, reduceIte, inR_eq, big_eq, beq_self_eq_true, List.nil_append, List.append_nil, List.length_nil, List.length_append, L_spec_l15Took_10, hh, s_MouthOk, hok, Bool.cond_true_left, Bool.cond_false_right, true_and]
      · simp (disch := omega) only [decide_true, decide_false, decide_eq_true, decide_eq_false, if_pos, if_neg, wr, cond_true, cond_false, Bool.not_true, Bool.not_false, Bool.and_true, Bool.true_and, Bool.and_false, Bool.false_and, Bool.or_true, Bool.true_or, Bool.or_false, Bool.false_or, Option.bind_some, Int.toNat_natCast, Bool.and_self, Bool.or_self, Bool.cond_self, reduceIte, inR_eq, big_eq, beq_self_eq_true, List.nil_append, List.append_nil, List.length_nil, List.length_append, L_spec_l15Took_10, hh, s_MouthOk, hok, Bool.cond_true_left, Bool.cond_false_right, true_and]
    | false =>
      simp (disch := omega) only [decide_true, decide_false, decide_eq_true, decide_eq_false, if_pos, if_neg, wr, cond_true, cond_false, Bool.not_true, Bool.not_false, Bool.and_true, Bool.true_and, Bool.and_false, Bool.false_and, Bool.or_true, Bool.true_or, Bool.or_false, Bool.false_or, Option.bind_some, Int.toNat_natCast, Bool.and_self, Bool.or_self, Bool.cond_self, reduceIte, inR_eq, big_eq, beq_self_eq_true, List.nil_append, List.append_nil, List.length_nil, List.length_append, L_spec_l15Took_10, hh, s_MouthOk, hok, Bool.false_eq_true, false_and]
  | x :: suf, pre, acc, 0, k, he, hn, hal, hl, hk => by simp at hn
  | x :: suf, pre, acc, n + 1, k, he, hn, hal, hl, hk => by
    have hlen : s.ranges.length = pre.length + (suf.length + 1) := by rw [he]; simp
    simp only [List.length_cons] at hl hn hal
    have hx : rdI (0, 0) s.ranges k.toNat = x := by rw [he, hk, Int.toNat_natCast]; exact rd_app _ _ _ _
    have ih := s_l15Took_l e s zz at_ on ho ha hr suf (pre ++ [x]) (acc ++ [(seqPlace e.out.heard x.1, seqPlace e.out.heard x.2)]) n (k + 1) (by simp [he]) (by omega) (by simp; omega) (by simp; omega) (by simp; omega)
    simp only [List.append_assoc, List.singleton_append] at ih
    simp (disch := omega) only [decide_true, decide_false, decide_eq_true, decide_eq_false, if_pos, if_neg, wr, cond_true, cond_false, Bool.not_true, Bool.not_false, Bool.and_true, Bool.true_and, Bool.and_false, Bool.false_and, Bool.or_true, Bool.true_or, Bool.or_false, Bool.false_or, Option.bind_some, Int.toNat_natCast, Bool.and_self, Bool.or_self, Bool.cond_self, reduceIte, inR_eq, big_eq, beq_self_eq_true, List.nil_append, List.append_nil, List.length_nil, List.length_append, L_spec_l15Took_10, hx, s_SeqPlace, ih, List.map_cons, List.length_cons]
theorem s_l15Took {e : Ed} (ho : e.out.ok = true) {s : Sg} (hs : s.ok = true) : F_spec_l15Took e.e s.e = some (((e.took s).e, e.fresh s, ()), ()) := by
  obtain ⟨g1, g2, g3, g4, g5, g6, g7, g8, g9⟩ := Mo.ok_sent ho
  obtain ⟨h1, h2, h3, h4, h5, h6, h7⟩ := Sg.ok_bd hs
  have hp := seqPlace_bd (near := e.out.heard) ⟨g4, g5⟩ s.ack
  have hm : (bif e.ltold then decide (seqPlace e.out.heard s.ack = e.out.heard + e.out.keep.length + 1) else false) = e.mark s := by rw [Bool.cond_false_right]; rfl
  have key : ∀ (lh on : Bool), L_spec_l15Took_10 fuel ((), (), (), e.tookAt s, on, [], 0, ({ e with lheard := lh } : Ed).e, s.e, (0, 0, 0, 0, 0, 0, (0, [], 0, 0, []), (0, 0, [], []), false, false, false, 0, 0, 0, 0, 0, 0), ()) =
      some ((if e.takes s = true then (({ e with lheard := lh, out := e.tookM s } : Ed).e, on || decide (0 < e.out.hearN (e.tookAt s)) || (decide (0 < (e.tookM s).room) && decide (e.out.room = 0)), ()) else (({ e with lheard := lh } : Ed).e, on, ())), ()) := by
    intro lh on
    have := s_l15Took_l { e with lheard := lh } s (0, 0, 0, 0, 0, 0, (0, [], 0, 0, []), (0, 0, [], []), false, false, false, 0, 0, 0, 0, 0, 0) (e.tookAt s) on ho (by unfold Ed.tookAt; split <;> omega) h5 s.ranges [] [] fuel 0 rfl (by rw [fuel_eq]; omega) (by simp; omega) (by simp; omega) rfl
    have this' : L_spec_l15Took_10 fuel ((), (), (), e.tookAt s, on, [], 0, ({ e with lheard := lh } : Ed).e, s.e, (0, 0, 0, 0, 0, 0, (0, [], 0, 0, []), (0, 0, [], []), false, false, false, 0, 0, 0, 0, 0, 0), ()) =
      some ((if (e.tookM s).ok = true ∧ e.out.heard ≤ (e.tookM s).heard then (({ e with lheard := lh, out := e.tookM s } : Ed).e, on || decide (0 < e.out.hearN (e.tookAt s)) || (decide (0 < (e.tookM s).room) && decide (e.out.room = 0)), ()) else (({ e with lheard := lh } : Ed).e, on, ())), ()) := this
    rw [this']
    by_cases hc : (e.tookM s).ok = true ∧ e.out.heard ≤ (e.tookM s).heard
    · have : e.takes s = true := by unfold Ed.takes; simp [hc.1, hc.2]
      rw [if_pos hc, if_pos this]
    · have : ¬ e.takes s = true := by unfold Ed.takes; simpa using hc
      rw [if_neg hc, if_neg this]
  have w0 : IntKind.i64.wrap (e.out.heard + e.out.keep.length) = e.out.heard + e.out.keep.length := wr (by omega) (by omega)
  have w1 : IntKind.i64.wrap (e.out.heard + e.out.keep.length + 1) = e.out.heard + e.out.keep.length + 1 := wr (by omega) (by omega)
  cases hmk : e.mark s with
  | true =>
    rw [hmk] at hm
    have ha : e.tookAt s = e.out.heard + e.out.keep.length := by unfold Ed.tookAt; rw [hmk]; rfl
    have key := key true (!e.lheard)
    simp only [Ed.e, ha] at key
    simp only [F_spec_l15Took, s_SeqPlace, Option.bind_some, w0, w1, hm, cond_true, key]
    simp only [Ed.took, Ed.fresh, hmk, ha]
    cases e.takes s <;> cases e.lheard <;> simp
  | false =>
    rw [hmk] at hm
    have ha : e.tookAt s = seqPlace e.out.heard s.ack := by unfold Ed.tookAt; rw [hmk]; rfl
    have key := key e.lheard false
    simp only [Ed.e, ha] at key
    simp only [F_spec_l15Took, s_SeqPlace, Option.bind_some, w0, w1, hm, cond_false, key]
    simp only [Ed.took, Ed.fresh, hmk, ha]
    cases e.takes s <;> cases e.lheard <;> simp
theorem insF_len (x : Int × Int) : ∀ (l : List (Int × Int)), (insF x l).length ≤ l.length + 1
  | [] => by simp [insF]
  | y :: l => by
    have := insF_len x l
    unfold insF
    split
    · simp
    · split
      · simp
      · simp only [List.length_cons]; omega
theorem s_l12Put_l (x : Int × Int) : ∀ (suf pre acc : List (Int × Int)) (done : Bool) (n : Nat) (k : Int), suf.length < n → pre.length + suf.length ≤ 1000000000 → acc.length + suf.length + (if done then 0 else 1) ≤ 1000000000 → k = pre.length →
    L_spec_l12Put_4 n (pre ++ suf, (), acc, done, k, x, ()) = some ((acc ++ (if done then suf else insF x suf), ()), ())
  | [], pre, acc, done, 0, k, hn, hl, ha, hk => by simp at hn
  | [], pre, acc, done, n + 1, k, hn, hl, ha, hk => by
    simp only [List.length_nil, Nat.add_zero] at ha hl
    cases done with
    | true => simp (disch := omega) only [decide_true, decide_false, decide_eq_true, decide_eq_false, if_pos, if_neg, wr, cond_true, cond_false, Bool.not_true, Bool.not_false, Bool.and_true, Bool.true_and, Bool.and_false, Bool.false_and, Bool.or_true, Bool.true_or, Bool.or_false, Bool.false_or, Option.bind_some, Int.toNat_natCast, Bool.and_self, Bool.or_self, Bool.cond_self, reduceIte, inR_eq, big_eq, beq_self_eq_true, List.nil_append, List.append_nil, List.length_nil, List.length_append, L_spec_l12Put_4]
    | false => simp only [Bool.false_eq_true, if_false] at ha; simp (disch := omega) only [decide_true, decide_false, decide_eq_true, decide_eq_false, if_pos, if_neg, wr, cond_true, cond_false, Bool.not_true, Bool.not_false, Bool.and_true, Bool.true_and, Bool.and_false, Bool.false_and, Bool.or_true, Bool.true_or, Bool.or_false, Bool.false_or, Option.bind_some, Int.toNat_natCast, Bool.and_self, Bool.or_self, Bool.cond_self, reduceIte, inR_eq, big_eq, beq_self_eq_true, List.nil_append, List.append_nil, List.length_nil, List.length_append, L_spec_l12Put_4, insF, Bool.false_eq_true, List.length_cons, Nat.zero_add]
  | y :: suf, pre, acc, done, 0, k, hn, hl, ha, hk => by simp at hn
  | y :: suf, pre, acc, done, n + 1, k, hn, hl, ha, hk => by
    simp only [List.length_cons] at hl hn ha
    have hlen : (pre ++ y :: suf).length = pre.length + (suf.length + 1) := by simp
    have hx : rdI (0, 0) (pre ++ y :: suf) k.toNat = y := by rw [hk, Int.toNat_natCast]; exact rd_app _ _ _ _
    have ih := fun acc done h => s_l12Put_l x suf (pre ++ [y]) acc done n (k + 1) (by omega) (by simp; omega) h (by simp; omega)
    simp only [List.append_assoc, List.singleton_append] at ih
    cases done with
    | true =>
      simp only [if_true, Nat.add_zero] at ha
      have ih1 := ih (acc ++ [y]) true (by simp; omega)
      simp only [List.append_assoc, List.singleton_append] at ih1
      by_cases h1 : x.1 = y.1
      · simp (disch := omega) only [decide_true, decide_false, decide_eq_true, decide_eq_false, if_pos, if_neg, wr, cond_true, cond_false, Bool.not_true, Bool.not_false, Bool.and_true, Bool.true_and, Bool.and_false, Bool.false_and, Bool.or_true, Bool.true_or, Bool.or_false, Bool.false_or, Option.bind_some, Int.toNat_natCast, Bool.and_self, Bool.or_self, Bool.cond_self, reduceIte, inR_eq, big_eq, beq_self_eq_true, List.nil_append, List.append_nil, List.length_nil, List.length_append, L_spec_l12Put_4, hx, ih1, List.length_cons, Bool.or_true, Nat.zero_add]
      · simp (disch := omega) only [decide_true, decide_false, decide_eq_true, decide_eq_false, if_pos, if_neg, wr, cond_true, cond_false, Bool.not_true, Bool.not_false, Bool.and_true, Bool.true_and, Bool.and_false, Bool.false_and, Bool.or_true, Bool.true_or, Bool.or_false, Bool.false_or, Option.bind_some, Int.toNat_natCast, Bool.and_self, Bool.or_self, Bool.cond_self, reduceIte, inR_eq, big_eq, beq_self_eq_true, List.nil_append, List.append_nil, List.length_nil, List.length_append, L_spec_l12Put_4, hx, ih1, List.length_cons, Bool.or_true, Nat.zero_add]
    | false =>
      simp only [Bool.false_eq_true, if_false] at ha
      by_cases h1 : x.1 < y.1
      · have ih1 := ih (acc ++ [x] ++ [y]) true (by simp; omega)
        simp only [List.append_assoc, List.singleton_append] at ih1
        simp (disch := omega) only [decide_true, decide_false, decide_eq_true, decide_eq_false, if_pos, if_neg, wr, cond_true, cond_false, Bool.not_true, Bool.not_false, Bool.and_true, Bool.true_and, Bool.and_false, Bool.false_and, Bool.or_true, Bool.true_or, Bool.or_false, Bool.false_or, Option.bind_some, Int.toNat_natCast, Bool.and_self, Bool.or_self, Bool.cond_self, reduceIte, inR_eq, big_eq, beq_self_eq_true, List.nil_append, List.append_nil, List.length_nil, List.length_append, L_spec_l12Put_4, hx, ih1, List.length_cons, insF, Bool.false_eq_true, Nat.zero_add, List.append_assoc, List.singleton_append]
        simp
      · by_cases h2 : x.1 = y.1
        · have ih1 := ih (acc ++ [y]) true (by simp; omega)
          simp only [List.append_assoc, List.singleton_append] at ih1
          simp (disch := omega) only [decide_true, decide_false, decide_eq_true, decide_eq_false, if_pos, if_neg, wr, cond_true, cond_false, Bool.not_true, Bool.not_false, Bool.and_true, Bool.true_and, Bool.and_false, Bool.false_and, Bool.or_true, Bool.true_or, Bool.or_false, Bool.false_or, Option.bind_some, Int.toNat_natCast, Bool.and_self, Bool.or_self, Bool.cond_self, reduceIte, inR_eq, big_eq, beq_self_eq_true, List.nil_append, List.append_nil, List.length_nil, List.length_append, L_spec_l12Put_4, hx, ih1, List.length_cons, insF, Bool.false_eq_true, Nat.zero_add]
        · have ih1 := ih (acc ++ [y]) false (by simp; omega)
          simp only [List.append_assoc, List.singleton_append, Bool.false_eq_true, if_false] at ih1
          simp (disch := omega) only [decide_true, decide_false, decide_eq_true, decide_eq_false, if_pos, if_neg, wr, cond_true, cond_false, Bool.not_true, Bool.not_false, Bool.and_true, Bool.true_and, Bool.and_false, Bool.false_and, Bool.or_true, Bool.true_or, Bool.or_false, Bool.false_or, Option.bind_some, Int.toNat_natCast, Bool.and_self, Bool.or_self, Bool.cond_self, reduceIte, inR_eq, big_eq, beq_self_eq_true, List.nil_append, List.append_nil, List.length_nil, List.length_append, L_spec_l12Put_4, hx, ih1, List.length_cons, insF, Bool.false_eq_true, Nat.zero_add]
theorem s_l12Put (l : List (Int × Int)) (x : Int × Int) (h : l.length ≤ 100000000) : F_spec_l12Put l x = some ((insF x l, ()), ()) := by
  have := s_l12Put_l x l [] [] false fuel 0 (by rw [fuel_eq]; omega) (by simp; omega) (by simp; omega) rfl
  unfold F_spec_l12Put
  simpa using this
end Go.VI.EwcVi
