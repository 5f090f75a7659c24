/- The reference's functions of ends come to the clean ones: bytes that come, new ends. -/
import Derived.Test.YtinlgneijojjmaaGreatNB
import Derived.Test.YtinlgneijojjmaaGreatNA
set_option linter.unusedVariables false
set_option linter.unusedSimpArgs false
namespace Go.VI.EwcVi
open Go Go.VI Go.VI.Ns

theorem drain_fst : ∀ (l : List (Int × Int)) (n : Int) (g : List Int), n ≤ (Ns.drain n g l).1 ∧ (Ns.drain n g l).1 ≤ n + l.length
  | [], n, g => by simp [Ns.drain]
  | x :: l, n, g => by
    unfold Ns.drain
    have := drain_fst l (n + 1) (g ++ [x.2])
    split
    · simp only [List.length_cons]; omega
    · simp only [List.length_cons]; omega
theorem drain_far : ∀ (l : List (Int × Int)) (n : Int) (g : List Int), (Ns.drain n g l).2.2.length ≤ l.length
  | [], n, g => by simp [Ns.drain]
  | x :: l, n, g => by
    unfold Ns.drain
    have := drain_far l (n + 1) (g ++ [x.2])
    split
    · simp only [List.length_cons]; omega
    · simp
theorem s_EarHear_l2 (zz : TEar) (room : Int) : ∀ (suf pre : List (Int × Int)) (got : List Int) (n : Nat) (k next : Int), suf.length < n → pre.length + suf.length ≤ 1000000000 → got.length + suf.length ≤ 1000000000 → 0 ≤ next → next + suf.length ≤ 1000000000000 → k = pre.length →
    L_spec_EarHear_12 n ((), pre ++ suf, (), k, zz, (next, room, got, []), ()) = some ((if 1000000 < (Ns.drain next got suf).1 then Ea.zero.e else ((Ns.drain next got suf).1, room, (Ns.drain next got suf).2.1, (Ns.drain next got suf).2.2), ()), ())
  | [], pre, got, 0, k, next, hn, hl, hg, h0, h1, hk => by simp at hn
  | [], pre, got, n + 1, k, next, hn, hl, hg, h0, h1, hk => by
    simp only [List.length_nil, Nat.add_zero] at hl
    have hd : (pre ++ []).drop k.toNat = ([] : List (Int × Int)) := by rw [hk]; simp
    simp only [List.append_nil] at hd
    have hir : ∀ b, inR k pre.length = b → b = false := by intro b hb; rw [← hb]; simp [inR]; omega
    have e : Ns.drain next got [] = (next, got, []) := rfl
    rw [e]
    by_cases hc : 1000000 < next
    · simp (disch := omega) only [decide_true, decide_false, decide_eq_true, decide_eq_false, if_pos, if_neg, wr, cond_true, cond_false, Bool.not_true, Bool.not_false, Bool.and_true, Bool.true_and, Bool.and_false, Bool.false_and, Bool.or_true, Bool.true_or, Bool.or_false, Bool.false_or, Option.bind_some, Int.toNat_natCast, Bool.and_self, Bool.or_self, Bool.cond_self, reduceIte, inR_eq, big_eq, beq_self_eq_true, List.nil_append, List.append_nil, List.length_nil, List.length_append, L_spec_EarHear_12, Ea.zero]
    · simp (disch := omega) only [decide_true, decide_false, decide_eq_true, decide_eq_false, if_pos, if_neg, wr, cond_true, cond_false, Bool.not_true, Bool.not_false, Bool.and_true, Bool.true_and, Bool.and_false, Bool.false_and, Bool.or_true, Bool.true_or, Bool.or_false, Bool.false_or, Option.bind_some, Int.toNat_natCast, Bool.and_self, Bool.or_self, Bool.cond_self, reduceIte, inR_eq, big_eq, beq_self_eq_true, List.nil_append, List.append_nil, List.length_nil, List.length_append, L_spec_EarHear_12, hd]
  | x :: suf, pre, got, 0, k, next, hn, hl, hg, h0, h1, hk => by simp at hn
  | x :: suf, pre, got, n + 1, k, next, hn, hl, hg, h0, h1, hk => by
    simp only [List.length_cons] at hl hn hg h1
    have hlen : (pre ++ x :: suf).length = pre.length + (suf.length + 1) := by simp
    have hx : rdI (0, 0) (pre ++ x :: suf) k.toNat = x := by rw [hk, Int.toNat_natCast]; exact rd_app _ _ _ _
    have hd : (pre ++ x :: suf).drop k.toNat = x :: suf := by rw [hk]; simp
    by_cases hc : x.1 = next
    · have ih := s_EarHear_l2 zz room suf (pre ++ [x]) (got ++ [x.2]) n (k + 1) (next + 1) (by omega) (by simp; omega) (by simp; omega) (by omega) (by omega) (by simp; omega)
      simp only [List.append_assoc, List.singleton_append] at ih
      have e : Ns.drain next got (x :: suf) = Ns.drain (next + 1) (got ++ [x.2]) suf := by rw [Ns.drain, if_pos hc]
      rw [e]
      simp (disch := omega) only [decide_true, decide_false, decide_eq_true, decide_eq_false, if_pos, if_neg, wr, cond_true, cond_false, Bool.not_true, Bool.not_false, Bool.and_true, Bool.true_and, Bool.and_false, Bool.false_and, Bool.or_true, Bool.true_or, Bool.or_false, Bool.false_or, Option.bind_some, Int.toNat_natCast, Bool.and_self, Bool.or_self, Bool.cond_self, reduceIte, inR_eq, big_eq, beq_self_eq_true, List.nil_append, List.append_nil, List.length_nil, List.length_append, L_spec_EarHear_12, hx, ih, List.length_cons, Nat.zero_add]
    · have e : Ns.drain next got (x :: suf) = (next, got, x :: suf) := by rw [Ns.drain, if_neg hc]
      rw [e]
      by_cases hz : 1000000 < next
      · simp (disch := omega) only [decide_true, decide_false, decide_eq_true, decide_eq_false, if_pos, if_neg, wr, cond_true, cond_false, Bool.not_true, Bool.not_false, Bool.and_true, Bool.true_and, Bool.and_false, Bool.false_and, Bool.or_true, Bool.true_or, Bool.or_false, Bool.false_or, Option.bind_some, Int.toNat_natCast, Bool.and_self, Bool.or_self, Bool.cond_self, reduceIte, inR_eq, big_eq, beq_self_eq_true, List.nil_append, List.append_nil, List.length_nil, List.length_append, L_spec_EarHear_12, hx, hd, List.length_cons, Ea.zero]
      · simp (disch := omega) only [decide_true, decide_false, decide_eq_true, decide_eq_false, if_pos, if_neg, wr, cond_true, cond_false, Bool.not_true, Bool.not_false, Bool.and_true, Bool.true_and, Bool.and_false, Bool.false_and, Bool.or_true, Bool.true_or, Bool.or_false, Bool.false_or, Option.bind_some, Int.toNat_natCast, Bool.and_self, Bool.or_self, Bool.cond_self, reduceIte, inR_eq, big_eq, beq_self_eq_true, List.nil_append, List.append_nil, List.length_nil, List.length_append, L_spec_EarHear_12, hx, hd, List.length_cons]
theorem fillF_len (next lim : Int) : ∀ (d : List Int) (at_ : Int) (far : List (Int × Int)), (fillF next lim at_ d far).length ≤ far.length + d.length
  | [], at_, far => by simp [fillF]
  | b :: d, at_, far => by
    unfold fillF
    refine Nat.le_trans (fillF_len next lim d (at_ + 1) _) ?_
    split
    · have := insF_len (at_, b) far
      simp only [List.length_cons]; omega
    · simp only [List.length_cons]; omega
theorem s_EarHear_l1 (e : Ea) (zz : TEar) (at_ : Int) (data0 : List Int) (hz : zz = (0, 0, [], [])) (ha : 0 ≤ at_ ∧ at_ ≤ 1000000) (he : e.ok = true) (hd0 : data0.length ≤ 100000) : ∀ (suf pre : List Int) (far : List (Int × Int)) (n : Nat) (k : Int), data0 = pre ++ suf → suf.length < n → far.length + suf.length ≤ 10000000 → k = pre.length →
    L_spec_EarHear_6 n (at_, data0, (), (), e.free, far, k, e.e, zz, ()) =
      some ((let f := fillF e.next (e.next + e.free) (at_ + k) suf far; if 1000000 < (Ns.drain e.next e.got f).1 then Ea.zero.e else ((Ns.drain e.next e.got f).1, e.room, (Ns.drain e.next e.got f).2.1, (Ns.drain e.next e.got f).2.2), ()), ())
  | [], pre, far, 0, k, hd, hn, hf, hk => by simp at hn
  | [], pre, far, n + 1, k, hd, hn, hf, hk => by
    obtain ⟨h1, h2, h3, h4, h5, h6, h7⟩ := Ea.ok_bd he
    have hlen : data0.length = pre.length := by rw [hd]; simp
    simp only [List.length_nil, Nat.add_zero] at hf
    have := s_EarHear_l2 zz e.room far [] e.got fuel 0 e.next (by rw [fuel_eq]; omega) (by simp; omega) (by omega) h1 (by omega) rfl
    simp only [List.nil_append] at this
    simp (disch := omega) only [decide_true, decide_false, decide_eq_true, decide_eq_false, if_pos, if_neg, wr, cond_true, cond_false, Bool.not_true, Bool.not_false, Bool.and_true, Bool.true_and, Bool.and_false, Bool.false_and, Bool.or_true, Bool.true_or, Bool.or_false, Bool.false_or, Option.bind_some, Int.toNat_natCast, Bool.and_self, Bool.or_self, Bool.cond_self, reduceIte, inR_eq, big_eq, beq_self_eq_true, List.nil_append, List.append_nil, List.length_nil, List.length_append, L_spec_EarHear_6, Nat.zero_add, this, fillF]
    rfl
  | b :: suf, pre, far, 0, k, hd, hn, hf, hk => by simp at hn
  | b :: suf, pre, far, n + 1, k, hd, hn, hf, hk => by
    obtain ⟨h1, h2, h3, h4, h5, h6, h7⟩ := Ea.ok_bd he
    simp only [List.length_cons] at hn hf
    have hfr : e.free ≤ 32 ∧ 0 ≤ e.free := by unfold Ea.free; omega
    have hlen : data0.length = pre.length + (suf.length + 1) := by rw [hd]; simp
    have hx : rdI 0 data0 k.toNat = b := by rw [hd, hk, Int.toNat_natCast]; exact rd_app _ _ _ _
    have ih := fun far hf => s_EarHear_l1 e zz at_ data0 hz ha he hd0 suf (pre ++ [b]) far n (k + 1) (by simp [hd]) (by omega) hf (by simp; omega)
    have w : at_ + (k + 1) = at_ + k + 1 := by omega
    rw [w] at ih
    have hi := insF_len (at_ + k, b) far
    by_cases c1 : e.next ≤ at_ + k
    · by_cases c2 : at_ + k < e.next + e.free
      · have hf2 : fillF e.next (e.next + e.free) (at_ + k) (b :: suf) far = fillF e.next (e.next + e.free) (at_ + k + 1) suf (insF (at_ + k, b) far) := by
          rw [fillF, if_pos ⟨c1, c2⟩]
        rw [hf2]
        have ih := ih (insF (at_ + k, b) far) (by omega)
        have hp := s_l12Put far (at_ + k, b) (by omega)
        simp (disch := omega) only [decide_true, decide_false, decide_eq_true, decide_eq_false, if_pos, if_neg, wr, cond_true, cond_false, Bool.not_true, Bool.not_false, Bool.and_true, Bool.true_and, Bool.and_false, Bool.false_and, Bool.or_true, Bool.true_or, Bool.or_false, Bool.false_or, Option.bind_some, Int.toNat_natCast, Bool.and_self, Bool.or_self, Bool.cond_self, reduceIte, inR_eq, big_eq, beq_self_eq_true, List.nil_append, List.append_nil, List.length_nil, List.length_append, L_spec_EarHear_6, hx, hp, ih]
      · have hf2 : fillF e.next (e.next + e.free) (at_ + k) (b :: suf) far = fillF e.next (e.next + e.free) (at_ + k + 1) suf far := by
          rw [fillF, if_neg (fun h => c2 h.2)]
        rw [hf2]
        have ih := ih far (by omega)
        simp (disch := omega) only [decide_true, decide_false, decide_eq_true, decide_eq_false, if_pos, if_neg, wr, cond_true, cond_false, Bool.not_true, Bool.not_false, Bool.and_true, Bool.true_and, Bool.and_false, Bool.false_and, Bool.or_true, Bool.true_or, Bool.or_false, Bool.false_or, Option.bind_some, Int.toNat_natCast, Bool.and_self, Bool.or_self, Bool.cond_self, reduceIte, inR_eq, big_eq, beq_self_eq_true, List.nil_append, List.append_nil, List.length_nil, List.length_append, L_spec_EarHear_6, hx, ih]
    · have hf2 : fillF e.next (e.next + e.free) (at_ + k) (b :: suf) far = fillF e.next (e.next + e.free) (at_ + k + 1) suf far := by
        rw [fillF, if_neg (fun h => c1 h.1)]
      rw [hf2]
      have ih := ih far (by omega)
      simp (disch := omega) only [decide_true, decide_false, decide_eq_true, decide_eq_false, if_pos, if_neg, wr, cond_true, cond_false, Bool.not_true, Bool.not_false, Bool.and_true, Bool.true_and, Bool.and_false, Bool.false_and, Bool.or_true, Bool.true_or, Bool.or_false, Bool.false_or, Option.bind_some, Int.toNat_natCast, Bool.and_self, Bool.or_self, Bool.cond_self, reduceIte, inR_eq, big_eq, beq_self_eq_true, List.nil_append, List.append_nil, List.length_nil, List.length_append, L_spec_EarHear_6, hx, ih]
theorem s_EarHear {e : Ea} (he : e.ok = true) {at_ : Int} {data : List Int} (ha : 0 ≤ at_ ∧ at_ ≤ 2000000) (hd : data.length ≤ 1000) : F_spec_EarHear e.e at_ data = some (((e.hear at_ data).e, ()), ()) := by
  have hf := Ea.ok_far he
  by_cases h1 : 1000000 < at_
  · simp (disch := omega) only [decide_true, decide_false, decide_eq_true, decide_eq_false, if_pos, if_neg, wr, cond_true, cond_false, Bool.not_true, Bool.not_false, Bool.and_true, Bool.true_and, Bool.and_false, Bool.false_and, Bool.or_true, Bool.true_or, Bool.or_false, Bool.false_or, Option.bind_some, Int.toNat_natCast, Bool.and_self, Bool.or_self, Bool.cond_self, reduceIte, inR_eq, big_eq, beq_self_eq_true, List.nil_append, List.append_nil, List.length_nil, List.length_append, F_spec_EarHear, s_EarOk e (by omega), he, s_l1In, inn, Ea.hear, true_or, Ea.zero]
  · have h := s_EarHear_l1 e (0, 0, [], []) at_ data rfl (by omega) he (by omega) data [] e.far fuel 0 rfl (by rw [fuel_eq]; omega) (by omega) rfl
    simp only [Int.add_zero] at h
    by_cases h2 : 1000000 < (Ns.drain e.next e.got (fillF e.next (e.next + e.free) at_ data e.far)).1
    · have e1 : e.hear at_ data = Ea.zero := by unfold Ea.hear; rw [if_pos (.inr h2)]
      simp (disch := omega) only [decide_true, decide_false, decide_eq_true, decide_eq_false, if_pos, if_neg, wr, cond_true, cond_false, Bool.not_true, Bool.not_false, Bool.and_true, Bool.true_and, Bool.and_false, Bool.false_and, Bool.or_true, Bool.true_or, Bool.or_false, Bool.false_or, Option.bind_some, Int.toNat_natCast, Bool.and_self, Bool.or_self, Bool.cond_self, reduceIte, inR_eq, big_eq, beq_self_eq_true, List.nil_append, List.append_nil, List.length_nil, List.length_append, F_spec_EarHear, s_EarOk e (by omega), he, s_l1In, inn, s_EarFree e he (by omega), Nat.zero_add, h, e1]
    · have e1 : e.hear at_ data = ⟨(Ns.drain e.next e.got (fillF e.next (e.next + e.free) at_ data e.far)).1, e.room, (Ns.drain e.next e.got (fillF e.next (e.next + e.free) at_ data e.far)).2.1, (Ns.drain e.next e.got (fillF e.next (e.next + e.free) at_ data e.far)).2.2⟩ := by
        unfold Ea.hear; rw [if_neg (fun h => h.elim h1 h2)]; rfl
      simp (disch := omega) only [decide_true, decide_false, decide_eq_true, decide_eq_false, if_pos, if_neg, wr, cond_true, cond_false, Bool.not_true, Bool.not_false, Bool.and_true, Bool.true_and, Bool.and_false, Bool.false_and, Bool.or_true, Bool.true_or, Bool.or_false, Bool.false_or, Option.bind_some, Int.toNat_natCast, Bool.and_self, Bool.or_self, Bool.cond_self, reduceIte, inR_eq, big_eq, beq_self_eq_true, List.nil_append, List.append_nil, List.length_nil, List.length_append, F_spec_EarHear, s_EarOk e (by omega), he, s_l1In, inn, s_EarFree e he (by omega), Nat.zero_add, h, e1]
set_option maxHeartbeats 1000000 in
theorem s_l15Heard_t {e : Ed} (h : e.ear.ok = true) {s : Sg} (hf : s.first = true) (hs : s.ok = true) (hpl : -1 ≤ e.plast ∧ e.plast ≤ 1000000) : F_spec_l15Heard e.e s.e = some (((e.heardB s).e, ()), ()) := by
  obtain ⟨k1, k2, k3, k4, k5, k6, k7⟩ := Ea.ok_bd h
  obtain ⟨h1, h2, h3, h4, h5, h6, h7⟩ := Sg.ok_bd hs
  have hp := seqPlace_bd (near := e.ear.next) ⟨k1, k2⟩ s.seq
  have hat : e.byteAt s = seqPlace e.ear.next s.seq + (if s.first then 1 else 0) := rfl
  have hab : seqPlace e.ear.next s.seq ≤ e.byteAt s ∧ e.byteAt s ≤ seqPlace e.ear.next s.seq + 1 := by rw [hat]; split <;> omega
  by_cases c1 : e.byteAt s < 0
  · have e1 : e.heardB s = e := by unfold Ed.heardB; rw [if_pos (.inl c1)]
    rw [hf, if_pos rfl] at hat
    simp (disch := omega) only [decide_true, decide_false, decide_eq_true, decide_eq_false, if_pos, if_neg, wr, cond_true, cond_false, Bool.not_true, Bool.not_false, Bool.and_true, Bool.true_and, Bool.and_false, Bool.false_and, Bool.or_true, Bool.true_or, Bool.or_false, Bool.false_or, Option.bind_some, Int.toNat_natCast, Bool.and_self, Bool.or_self, Bool.cond_self, reduceIte, inR_eq, big_eq, beq_self_eq_true, List.nil_append, List.append_nil, List.length_nil, List.length_append, F_spec_l15Heard, s_SeqPlace, hf, e1]
  by_cases c2 : 0 ≤ e.plast ∧ e.plast < e.byteAt s + s.data.length
  · have e1 : e.heardB s = e := by unfold Ed.heardB; rw [if_pos (.inr c2)]
    obtain ⟨c2, c3⟩ := c2
    rw [hf, if_pos rfl] at hat
    simp (disch := omega) only [decide_true, decide_false, decide_eq_true, decide_eq_false, if_pos, if_neg, wr, cond_true, cond_false, Bool.not_true, Bool.not_false, Bool.and_true, Bool.true_and, Bool.and_false, Bool.false_and, Bool.or_true, Bool.true_or, Bool.or_false, Bool.false_or, Option.bind_some, Int.toNat_natCast, Bool.and_self, Bool.or_self, Bool.cond_self, reduceIte, inR_eq, big_eq, beq_self_eq_true, List.nil_append, List.append_nil, List.length_nil, List.length_append, F_spec_l15Heard, s_SeqPlace, hf, e1]
  have c12 : ¬ (e.byteAt s < 0 ∨ (0 ≤ e.plast ∧ e.plast < e.byteAt s + s.data.length)) := by omega
  have hh := s_EarHear h (at_ := e.byteAt s) (data := s.data) (by omega) (by omega)
  rw [show e.ear.hear (e.byteAt s) s.data = e.heardE s from rfl] at hh
  have hfar : (e.heardE s).far.length ≤ 1000000000 := by
    unfold Ed.heardE Ea.hear
    split
    · simp [Ea.zero]
    · have g1 := drain_far (fillF e.ear.next (e.ear.next + e.ear.free) (e.byteAt s) s.data e.ear.far) e.ear.next e.ear.got
      have g2 := fillF_len e.ear.next (e.ear.next + e.ear.free) s.data (e.byteAt s) e.ear.far
      have g3 := Ea.ok_far h
      simp only [Ea.hearD]
      omega
  have hok := s_EarOk (e.heardE s) hfar
  have e1 : e.heardB s = if (e.heardE s).ok then
      { e with ear := e.heardE s, plast := if s.last = true ∧ e.plast = -1 ∧ (e.heardE s).next ≤ e.byteAt s + s.data.length ∧ e.byteAt s + s.data.length ≤ (e.heardE s).next + (e.heardE s).free ∧ e.byteAt s + s.data.length ≤ 1000000 ∧ ∀ x ∈ (e.heardE s).far, x.1 < e.byteAt s + s.data.length then e.byteAt s + s.data.length else e.plast }
    else e := by unfold Ed.heardB; rw [if_neg c12]
  have c2 : e.plast < 0 ∨ e.byteAt s + s.data.length ≤ e.plast := by omega
  clear c12 h4 h5 h6 h1 h2
  generalize e.heardE s = x at *
  cases hxo : x.ok with
  | false =>
    rw [hxo] at e1 hok
    simp only [Bool.false_eq_true, if_false] at e1
    simp only [hf, if_true, if_false, Bool.false_eq_true, Int.add_zero] at hat
    simp (disch := omega) only [decide_true, decide_false, decide_eq_true, decide_eq_false, if_pos, if_neg, wr, cond_true, cond_false, Bool.not_true, Bool.not_false, Bool.and_true, Bool.true_and, Bool.and_false, Bool.false_and, Bool.or_true, Bool.true_or, Bool.or_false, Bool.false_or, Option.bind_some, Int.toNat_natCast, Bool.and_self, Bool.or_self, Bool.cond_self, reduceIte, inR_eq, big_eq, beq_self_eq_true, List.nil_append, List.append_nil, List.length_nil, List.length_append, F_spec_l15Heard, s_SeqPlace, hf, e1, ← hat, hh, hok]
  | true =>
    have hfree := s_EarFree x hxo hfar
    obtain ⟨j1, j2, j3, j4, j5, j6, j7⟩ := Ea.ok_bd hxo
    have j8 : 0 ≤ x.free ∧ x.free ≤ 32 := by unfold Ea.free; omega
    rw [hxo] at hok e1
    rw [if_pos rfl] at e1
    by_cases c : s.last = true ∧ e.plast = -1 ∧ x.next ≤ e.byteAt s + s.data.length
    · obtain ⟨d1, d2, d3⟩ := c
      rcases List.eq_nil_or_concat x.far with hfx | ⟨l, y, hfx⟩
      · have d5 : ∀ z ∈ x.far, z.1 < e.byteAt s + s.data.length := by rw [hfx]; simp
        have d6 : (x.far.length : Int) = 0 := by rw [hfx]; rfl
        by_cases d4 : e.byteAt s + s.data.length ≤ x.next + x.free ∧ e.byteAt s + s.data.length ≤ 1000000
        · rw [if_pos ⟨d1, d2, d3, d4.1, d4.2, d5⟩] at e1
          obtain ⟨d4, d7⟩ := d4
          simp only [hf, if_true, if_false, Bool.false_eq_true, Int.add_zero] at hat
          simp (disch := omega) only [decide_true, decide_false, decide_eq_true, decide_eq_false, if_pos, if_neg, wr, cond_true, cond_false, Bool.not_true, Bool.not_false, Bool.and_true, Bool.true_and, Bool.and_false, Bool.false_and, Bool.or_true, Bool.true_or, Bool.or_false, Bool.false_or, Option.bind_some, Int.toNat_natCast, Bool.and_self, Bool.or_self, Bool.cond_self, reduceIte, inR_eq, big_eq, beq_self_eq_true, List.nil_append, List.append_nil, List.length_nil, List.length_append, F_spec_l15Heard, s_SeqPlace, hf, e1, ← hat, hh, hok, d1, hfree, Bool.or_true]
        · rw [if_neg (fun hz => d4 ⟨hz.2.2.2.1, hz.2.2.2.2.1⟩)] at e1
          simp only [hf, if_true, if_false, Bool.false_eq_true, Int.add_zero] at hat
          by_cases d7 : e.byteAt s + s.data.length ≤ x.next + x.free
          · simp (disch := omega) only [decide_true, decide_false, decide_eq_true, decide_eq_false, if_pos, if_neg, wr, cond_true, cond_false, Bool.not_true, Bool.not_false, Bool.and_true, Bool.true_and, Bool.and_false, Bool.false_and, Bool.or_true, Bool.true_or, Bool.or_false, Bool.false_or, Option.bind_some, Int.toNat_natCast, Bool.and_self, Bool.or_self, Bool.cond_self, reduceIte, inR_eq, big_eq, beq_self_eq_true, List.nil_append, List.append_nil, List.length_nil, List.length_append, F_spec_l15Heard, s_SeqPlace, hf, e1, ← hat, hh, hok, d1, hfree, Bool.or_true]
          · simp (disch := omega) only [decide_true, decide_false, decide_eq_true, decide_eq_false, if_pos, if_neg, wr, cond_true, cond_false, Bool.not_true, Bool.not_false, Bool.and_true, Bool.true_and, Bool.and_false, Bool.false_and, Bool.or_true, Bool.true_or, Bool.or_false, Bool.false_or, Option.bind_some, Int.toNat_natCast, Bool.and_self, Bool.or_self, Bool.cond_self, reduceIte, inR_eq, big_eq, beq_self_eq_true, List.nil_append, List.append_nil, List.length_nil, List.length_append, F_spec_l15Heard, s_SeqPlace, hf, e1, ← hat, hh, hok, d1, hfree, Bool.or_true]
      · rw [List.concat_eq_append] at hfx
        have hlen : x.far.length = l.length + 1 := by rw [hfx]; simp
        have hrd : rdI (0, 0) x.far ((x.far.length : Int) - 1).toNat = y := by
          rw [hlen, show (((l.length + 1 : Nat) : Int) - 1).toNat = l.length by omega, hfx]; exact rd_app _ _ _ _
        have hall : (∀ z ∈ x.far, z.1 < e.byteAt s + s.data.length) ↔ y.1 < e.byteAt s + s.data.length := by
          have := farOk_all (p := e.byteAt s + s.data.length) (by rw [← hfx]; exact j6)
          rw [← hfx, Bool.eq_iff_iff] at this
          simpa using this
        by_cases d4 : e.byteAt s + s.data.length ≤ x.next + x.free ∧ e.byteAt s + s.data.length ≤ 1000000 ∧ y.1 < e.byteAt s + s.data.length
        · rw [if_pos ⟨d1, d2, d3, d4.1, d4.2.1, hall.2 d4.2.2⟩] at e1
          obtain ⟨d4, d7, d8⟩ := d4
          simp only [hf, if_true, if_false, Bool.false_eq_true, Int.add_zero] at hat
          simp (disch := omega) only [decide_true, decide_false, decide_eq_true, decide_eq_false, if_pos, if_neg, wr, cond_true, cond_false, Bool.not_true, Bool.not_false, Bool.and_true, Bool.true_and, Bool.and_false, Bool.false_and, Bool.or_true, Bool.true_or, Bool.or_false, Bool.false_or, Option.bind_some, Int.toNat_natCast, Bool.and_self, Bool.or_self, Bool.cond_self, reduceIte, inR_eq, big_eq, beq_self_eq_true, List.nil_append, List.append_nil, List.length_nil, List.length_append, F_spec_l15Heard, s_SeqPlace, hf, e1, ← hat, hh, hok, d1, hfree, hrd]
        · rw [if_neg (fun hz => d4 ⟨hz.2.2.2.1, hz.2.2.2.2.1, hall.1 hz.2.2.2.2.2⟩)] at e1
          simp only [hf, if_true, if_false, Bool.false_eq_true, Int.add_zero] at hat
          by_cases d7 : e.byteAt s + s.data.length ≤ x.next + x.free
          · by_cases d8 : e.byteAt s + s.data.length ≤ 1000000
            · have d9 : ¬ y.1 < e.byteAt s + s.data.length := fun hz => d4 ⟨d7, d8, hz⟩
              clear d4
              simp (disch := omega) only [decide_true, decide_false, decide_eq_true, decide_eq_false, if_pos, if_neg, wr, cond_true, cond_false, Bool.not_true, Bool.not_false, Bool.and_true, Bool.true_and, Bool.and_false, Bool.false_and, Bool.or_true, Bool.true_or, Bool.or_false, Bool.false_or, Option.bind_some, Int.toNat_natCast, Bool.and_self, Bool.or_self, Bool.cond_self, reduceIte, inR_eq, big_eq, beq_self_eq_true, List.nil_append, List.append_nil, List.length_nil, List.length_append, F_spec_l15Heard, s_SeqPlace, hf, e1, ← hat, hh, hok, d1, hfree, hrd]
            · clear d4
              simp (disch := omega) only [decide_true, decide_false, decide_eq_true, decide_eq_false, if_pos, if_neg, wr, cond_true, cond_false, Bool.not_true, Bool.not_false, Bool.and_true, Bool.true_and, Bool.and_false, Bool.false_and, Bool.or_true, Bool.true_or, Bool.or_false, Bool.false_or, Option.bind_some, Int.toNat_natCast, Bool.and_self, Bool.or_self, Bool.cond_self, reduceIte, inR_eq, big_eq, beq_self_eq_true, List.nil_append, List.append_nil, List.length_nil, List.length_append, F_spec_l15Heard, s_SeqPlace, hf, e1, ← hat, hh, hok, d1, hfree, hrd]
          · clear d4
            simp (disch := omega) only [decide_true, decide_false, decide_eq_true, decide_eq_false, if_pos, if_neg, wr, cond_true, cond_false, Bool.not_true, Bool.not_false, Bool.and_true, Bool.true_and, Bool.and_false, Bool.false_and, Bool.or_true, Bool.true_or, Bool.or_false, Bool.false_or, Option.bind_some, Int.toNat_natCast, Bool.and_self, Bool.or_self, Bool.cond_self, reduceIte, inR_eq, big_eq, beq_self_eq_true, List.nil_append, List.append_nil, List.length_nil, List.length_append, F_spec_l15Heard, s_SeqPlace, hf, e1, ← hat, hh, hok, d1, hfree, hrd]
    · rw [if_neg (fun hz => c ⟨hz.1, hz.2.1, hz.2.2.1⟩)] at e1
      simp only [hf, if_true, if_false, Bool.false_eq_true, Int.add_zero] at hat
      cases hl : s.last with
      | false => by_cases d0 : 0 ≤ e.plast <;> simp (disch := omega) only [decide_true, decide_false, decide_eq_true, decide_eq_false, if_pos, if_neg, wr, cond_true, cond_false, Bool.not_true, Bool.not_false, Bool.and_true, Bool.true_and, Bool.and_false, Bool.false_and, Bool.or_true, Bool.true_or, Bool.or_false, Bool.false_or, Option.bind_some, Int.toNat_natCast, Bool.and_self, Bool.or_self, Bool.cond_self, reduceIte, inR_eq, big_eq, beq_self_eq_true, List.nil_append, List.append_nil, List.length_nil, List.length_append, F_spec_l15Heard, s_SeqPlace, hf, e1, ← hat, hh, hok, hl, Bool.or_true]
      | true =>
        by_cases d2 : e.plast = -1
        · have d3 : ¬ x.next ≤ e.byteAt s + s.data.length := fun hz => c ⟨hl, d2, hz⟩
          simp (disch := omega) only [decide_true, decide_false, decide_eq_true, decide_eq_false, if_pos, if_neg, wr, cond_true, cond_false, Bool.not_true, Bool.not_false, Bool.and_true, Bool.true_and, Bool.and_false, Bool.false_and, Bool.or_true, Bool.true_or, Bool.or_false, Bool.false_or, Option.bind_some, Int.toNat_natCast, Bool.and_self, Bool.or_self, Bool.cond_self, reduceIte, inR_eq, big_eq, beq_self_eq_true, List.nil_append, List.append_nil, List.length_nil, List.length_append, F_spec_l15Heard, s_SeqPlace, hf, e1, ← hat, hh, hok, hl, Bool.or_true]
        · simp (disch := omega) only [decide_true, decide_false, decide_eq_true, decide_eq_false, if_pos, if_neg, wr, cond_true, cond_false, Bool.not_true, Bool.not_false, Bool.and_true, Bool.true_and, Bool.and_false, Bool.false_and, Bool.or_true, Bool.true_or, Bool.or_false, Bool.false_or, Option.bind_some, Int.toNat_natCast, Bool.and_self, Bool.or_self, Bool.cond_self, reduceIte, inR_eq, big_eq, beq_self_eq_true, List.nil_append, List.append_nil, List.length_nil, List.length_append, F_spec_l15Heard, s_SeqPlace, hf, e1, ← hat, hh, hok, hl, Bool.or_true]
set_option maxHeartbeats 1000000 in
theorem s_l15Heard_f {e : Ed} (h : e.ear.ok = true) {s : Sg} (hf : s.first = false) (hs : s.ok = true) (hpl : -1 ≤ e.plast ∧ e.plast ≤ 1000000) : F_spec_l15Heard e.e s.e = some (((e.heardB s).e, ()), ()) := by
  obtain ⟨k1, k2, k3, k4, k5, k6, k7⟩ := Ea.ok_bd h
  obtain ⟨h1, h2, h3, h4, h5, h6, h7⟩ := Sg.ok_bd hs
  have hp := seqPlace_bd (near := e.ear.next) ⟨k1, k2⟩ s.seq
  have hat : e.byteAt s = seqPlace e.ear.next s.seq + (if s.first then 1 else 0) := rfl
  have hab : seqPlace e.ear.next s.seq ≤ e.byteAt s ∧ e.byteAt s ≤ seqPlace e.ear.next s.seq + 1 := by rw [hat]; split <;> omega
  by_cases c1 : e.byteAt s < 0
  · have e1 : e.heardB s = e := by unfold Ed.heardB; rw [if_pos (.inl c1)]
    rw [hf, if_neg (by simp)] at hat
    simp (disch := omega) only [decide_true, decide_false, decide_eq_true, decide_eq_false, if_pos, if_neg, wr, cond_true, cond_false, Bool.not_true, Bool.not_false, Bool.and_true, Bool.true_and, Bool.and_false, Bool.false_and, Bool.or_true, Bool.true_or, Bool.or_false, Bool.false_or, Option.bind_some, Int.toNat_natCast, Bool.and_self, Bool.or_self, Bool.cond_self, reduceIte, inR_eq, big_eq, beq_self_eq_true, List.nil_append, List.append_nil, List.length_nil, List.length_append, F_spec_l15Heard, s_SeqPlace, hf, e1]
  by_cases c2 : 0 ≤ e.plast ∧ e.plast < e.byteAt s + s.data.length
  · have e1 : e.heardB s = e := by unfold Ed.heardB; rw [if_pos (.inr c2)]
    obtain ⟨c2, c3⟩ := c2
    rw [hf, if_neg (by simp)] at hat
    simp (disch := omega) only [decide_true, decide_false, decide_eq_true, decide_eq_false, if_pos, if_neg, wr, cond_true, cond_false, Bool.not_true, Bool.not_false, Bool.and_true, Bool.true_and, Bool.and_false, Bool.false_and, Bool.or_true, Bool.true_or, Bool.or_false, Bool.false_or, Option.bind_some, Int.toNat_natCast, Bool.and_self, Bool.or_self, Bool.cond_self, reduceIte, inR_eq, big_eq, beq_self_eq_true, List.nil_append, List.append_nil, List.length_nil, List.length_append, F_spec_l15Heard, s_SeqPlace, hf, e1]
  have c12 : ¬ (e.byteAt s < 0 ∨ (0 ≤ e.plast ∧ e.plast < e.byteAt s + s.data.length)) := by omega
  have hh := s_EarHear h (at_ := e.byteAt s) (data := s.data) (by omega) (by omega)
  rw [show e.ear.hear (e.byteAt s) s.data = e.heardE s from rfl] at hh
  have hfar : (e.heardE s).far.length ≤ 1000000000 := by
    unfold Ed.heardE Ea.hear
    split
    · simp [Ea.zero]
    · have g1 := drain_far (fillF e.ear.next (e.ear.next + e.ear.free) (e.byteAt s) s.data e.ear.far) e.ear.next e.ear.got
      have g2 := fillF_len e.ear.next (e.ear.next + e.ear.free) s.data (e.byteAt s) e.ear.far
      have g3 := Ea.ok_far h
      simp only [Ea.hearD]
      omega
  have hok := s_EarOk (e.heardE s) hfar
  have e1 : e.heardB s = if (e.heardE s).ok then
      { e with ear := e.heardE s, plast := if s.last = true ∧ e.plast = -1 ∧ (e.heardE s).next ≤ e.byteAt s + s.data.length ∧ e.byteAt s + s.data.length ≤ (e.heardE s).next + (e.heardE s).free ∧ e.byteAt s + s.data.length ≤ 1000000 ∧ ∀ x ∈ (e.heardE s).far, x.1 < e.byteAt s + s.data.length then e.byteAt s + s.data.length else e.plast }
    else e := by unfold Ed.heardB; rw [if_neg c12]
  have c2 : e.plast < 0 ∨ e.byteAt s + s.data.length ≤ e.plast := by omega
  clear c12 h4 h5 h6 h1 h2
  generalize e.heardE s = x at *
  cases hxo : x.ok with
  | false =>
    rw [hxo] at e1 hok
    simp only [Bool.false_eq_true, if_false] at e1
    simp only [hf, if_true, if_false, Bool.false_eq_true, Int.add_zero] at hat
    simp (disch := omega) only [decide_true, decide_false, decide_eq_true, decide_eq_false, if_pos, if_neg, wr, cond_true, cond_false, Bool.not_true, Bool.not_false, Bool.and_true, Bool.true_and, Bool.and_false, Bool.false_and, Bool.or_true, Bool.true_or, Bool.or_false, Bool.false_or, Option.bind_some, Int.toNat_natCast, Bool.and_self, Bool.or_self, Bool.cond_self, reduceIte, inR_eq, big_eq, beq_self_eq_true, List.nil_append, List.append_nil, List.length_nil, List.length_append, F_spec_l15Heard, s_SeqPlace, hf, e1, ← hat, hh, hok]
  | true =>
    have hfree := s_EarFree x hxo hfar
    obtain ⟨j1, j2, j3, j4, j5, j6, j7⟩ := Ea.ok_bd hxo
    have j8 : 0 ≤ x.free ∧ x.free ≤ 32 := by unfold Ea.free; omega
    rw [hxo] at hok e1
    rw [if_pos rfl] at e1
    by_cases c : s.last = true ∧ e.plast = -1 ∧ x.next ≤ e.byteAt s + s.data.length
    · obtain ⟨d1, d2, d3⟩ := c
      rcases List.eq_nil_or_concat x.far with hfx | ⟨l, y, hfx⟩
      · have d5 : ∀ z ∈ x.far, z.1 < e.byteAt s + s.data.length := by rw [hfx]; simp
        have d6 : (x.far.length : Int) = 0 := by rw [hfx]; rfl
        by_cases d4 : e.byteAt s + s.data.length ≤ x.next + x.free ∧ e.byteAt s + s.data.length ≤ 1000000
        · rw [if_pos ⟨d1, d2, d3, d4.1, d4.2, d5⟩] at e1
          obtain ⟨d4, d7⟩ := d4
          simp only [hf, if_true, if_false, Bool.false_eq_true, Int.add_zero] at hat
          simp (disch := omega) only [decide_true, decide_false, decide_eq_true, decide_eq_false, if_pos, if_neg, wr, cond_true, cond_false, Bool.not_true, Bool.not_false, Bool.and_true, Bool.true_and, Bool.and_false, Bool.false_and, Bool.or_true, Bool.true_or, Bool.or_false, Bool.false_or, Option.bind_some, Int.toNat_natCast, Bool.and_self, Bool.or_self, Bool.cond_self, reduceIte, inR_eq, big_eq, beq_self_eq_true, List.nil_append, List.append_nil, List.length_nil, List.length_append, F_spec_l15Heard, s_SeqPlace, hf, e1, ← hat, hh, hok, d1, hfree, Bool.or_true]
        · rw [if_neg (fun hz => d4 ⟨hz.2.2.2.1, hz.2.2.2.2.1⟩)] at e1
          simp only [hf, if_true, if_false, Bool.false_eq_true, Int.add_zero] at hat
          by_cases d7 : e.byteAt s + s.data.length ≤ x.next + x.free
          · simp (disch := omega) only [decide_true, decide_false, decide_eq_true, decide_eq_false, if_pos, if_neg, wr, cond_true, cond_false, Bool.not_true, Bool.not_false, Bool.and_true, Bool.true_and, Bool.and_false, Bool.false_and, Bool.or_true, Bool.true_or, Bool.or_false, Bool.false_or, Option.bind_some, Int.toNat_natCast, Bool.and_self, Bool.or_self, Bool.cond_self, reduceIte, inR_eq, big_eq, beq_self_eq_true, List.nil_append, List.append_nil, List.length_nil, List.length_append, F_spec_l15Heard, s_SeqPlace, hf, e1, ← hat, hh, hok, d1, hfree, Bool.or_true]
          · simp (disch := omega) only [decide_true, decide_false, decide_eq_true, decide_eq_false, if_pos, if_neg, wr, cond_true, cond_false, Bool.not_true, Bool.not_false, Bool.and_true, Bool.true_and, Bool.and_false, Bool.false_and, Bool.or_true, Bool.true_or, Bool.or_false, Bool.false_or, Option.bind_some, Int.toNat_natCast, Bool.and_self, Bool.or_self, Bool.cond_self, reduceIte, inR_eq, big_eq, beq_self_eq_true, List.nil_append, List.append_nil, List.length_nil, List.length_append, F_spec_l15Heard, s_SeqPlace, hf, e1, ← hat, hh, hok, d1, hfree, Bool.or_true]
      · rw [List.concat_eq_append] at hfx
        have hlen : x.far.length = l.length + 1 := by rw [hfx]; simp
        have hrd : rdI (0, 0) x.far ((x.far.length : Int) - 1).toNat = y := by
          rw [hlen, show (((l.length + 1 : Nat) : Int) - 1).toNat = l.length by omega, hfx]; exact rd_app _ _ _ _
        have hall : (∀ z ∈ x.far, z.1 < e.byteAt s + s.data.length) ↔ y.1 < e.byteAt s + s.data.length := by
          have := farOk_all (p := e.byteAt s + s.data.length) (by rw [← hfx]; exact j6)
          rw [← hfx, Bool.eq_iff_iff] at this
          simpa using this
        by_cases d4 : e.byteAt s + s.data.length ≤ x.next + x.free ∧ e.byteAt s + s.data.length ≤ 1000000 ∧ y.1 < e.byteAt s + s.data.length
        · rw [if_pos ⟨d1, d2, d3, d4.1, d4.2.1, hall.2 d4.2.2⟩] at e1
          obtain ⟨d4, d7, d8⟩ := d4
          simp only [hf, if_true, if_false, Bool.false_eq_true, Int.add_zero] at hat
          simp (disch := omega) only [decide_true, decide_false, decide_eq_true, decide_eq_false, if_pos, if_neg, wr, cond_true, cond_false, Bool.not_true, Bool.not_false, Bool.and_true, Bool.true_and, Bool.and_false, Bool.false_and, Bool.or_true, Bool.true_or, Bool.or_false, Bool.false_or, Option.bind_some, Int.toNat_natCast, Bool.and_self, Bool.or_self, Bool.cond_self, reduceIte, inR_eq, big_eq, beq_self_eq_true, List.nil_append, List.append_nil, List.length_nil, List.length_append, F_spec_l15Heard, s_SeqPlace, hf, e1, ← hat, hh, hok, d1, hfree, hrd]
        · rw [if_neg (fun hz => d4 ⟨hz.2.2.2.1, hz.2.2.2.2.1, hall.1 hz.2.2.2.2.2⟩)] at e1
          simp only [hf, if_true, if_false, Bool.false_eq_true, Int.add_zero] at hat
          by_cases d7 : e.byteAt s + s.data.length ≤ x.next + x.free
          · by_cases d8 : e.byteAt s + s.data.length ≤ 1000000
            · have d9 : ¬ y.1 < e.byteAt s + s.data.length := fun hz => d4 ⟨d7, d8, hz⟩
              clear d4
              simp (disch := omega) only [decide_true, decide_false, decide_eq_true, decide_eq_false, if_pos, if_neg, wr, cond_true, cond_false, Bool.not_true, Bool.not_false, Bool.and_true, Bool.true_and, Bool.and_false, Bool.false_and, Bool.or_true, Bool.true_or, Bool.or_false, Bool.false_or, Option.bind_some, Int.toNat_natCast, Bool.and_self, Bool.or_self, Bool.cond_self, reduceIte, inR_eq, big_eq, beq_self_eq_true, List.nil_append, List.append_nil, List.length_nil, List.length_append, F_spec_l15Heard, s_SeqPlace, hf, e1, ← hat, hh, hok, d1, hfree, hrd]
            · clear d4
              simp (disch := omega) only [decide_true, decide_false, decide_eq_true, decide_eq_false, if_pos, if_neg, wr, cond_true, cond_false, Bool.not_true, Bool.not_false, Bool.and_true, Bool.true_and, Bool.and_false, Bool.false_and, Bool.or_true, Bool.true_or, Bool.or_false, Bool.false_or, Option.bind_some, Int.toNat_natCast, Bool.and_self, Bool.or_self, Bool.cond_self, reduceIte, inR_eq, big_eq, beq_self_eq_true, List.nil_append, List.append_nil, List.length_nil, List.length_append, F_spec_l15Heard, s_SeqPlace, hf, e1, ← hat, hh, hok, d1, hfree, hrd]
          · clear d4
            simp (disch := omega) only [decide_true, decide_false, decide_eq_true, decide_eq_false, if_pos, if_neg, wr, cond_true, cond_false, Bool.not_true, Bool.not_false, Bool.and_true, Bool.true_and, Bool.and_false, Bool.false_and, Bool.or_true, Bool.true_or, Bool.or_false, Bool.false_or, Option.bind_some, Int.toNat_natCast, Bool.and_self, Bool.or_self, Bool.cond_self, reduceIte, inR_eq, big_eq, beq_self_eq_true, List.nil_append, List.append_nil, List.length_nil, List.length_append, F_spec_l15Heard, s_SeqPlace, hf, e1, ← hat, hh, hok, d1, hfree, hrd]
    · rw [if_neg (fun hz => c ⟨hz.1, hz.2.1, hz.2.2.1⟩)] at e1
      simp only [hf, if_true, if_false, Bool.false_eq_true, Int.add_zero] at hat
      cases hl : s.last with
      | false => by_cases d0 : 0 ≤ e.plast <;> simp (disch := omega) only [decide_true, decide_false, decide_eq_true, decide_eq_false, if_pos, if_neg, wr, cond_true, cond_false, Bool.not_true, Bool.not_false, Bool.and_true, Bool.true_and, Bool.and_false, Bool.false_and, Bool.or_true, Bool.true_or, Bool.or_false, Bool.false_or, Option.bind_some, Int.toNat_natCast, Bool.and_self, Bool.or_self, Bool.cond_self, reduceIte, inR_eq, big_eq, beq_self_eq_true, List.nil_append, List.append_nil, List.length_nil, List.length_append, F_spec_l15Heard, s_SeqPlace, hf, e1, ← hat, hh, hok, hl, Bool.or_true]
      | true =>
        by_cases d2 : e.plast = -1
        · have d3 : ¬ x.next ≤ e.byteAt s + s.data.length := fun hz => c ⟨hl, d2, hz⟩
          simp (disch := omega) only [decide_true, decide_false, decide_eq_true, decide_eq_false, if_pos, if_neg, wr, cond_true, cond_false, Bool.not_true, Bool.not_false, Bool.and_true, Bool.true_and, Bool.and_false, Bool.false_and, Bool.or_true, Bool.true_or, Bool.or_false, Bool.false_or, Option.bind_some, Int.toNat_natCast, Bool.and_self, Bool.or_self, Bool.cond_self, reduceIte, inR_eq, big_eq, beq_self_eq_true, List.nil_append, List.append_nil, List.length_nil, List.length_append, F_spec_l15Heard, s_SeqPlace, hf, e1, ← hat, hh, hok, hl, Bool.or_true]
        · simp (disch := omega) only [decide_true, decide_false, decide_eq_true, decide_eq_false, if_pos, if_neg, wr, cond_true, cond_false, Bool.not_true, Bool.not_false, Bool.and_true, Bool.true_and, Bool.and_false, Bool.false_and, Bool.or_true, Bool.true_or, Bool.or_false, Bool.false_or, Option.bind_some, Int.toNat_natCast, Bool.and_self, Bool.or_self, Bool.cond_self, reduceIte, inR_eq, big_eq, beq_self_eq_true, List.nil_append, List.append_nil, List.length_nil, List.length_append, F_spec_l15Heard, s_SeqPlace, hf, e1, ← hat, hh, hok, hl, Bool.or_true]
theorem s_l15Heard {e : Ed} (h : e.ear.ok = true) {s : Sg} (hs : s.ok = true) (hpl : -1 ≤ e.plast ∧ e.plast ≤ 1000000) : F_spec_l15Heard e.e s.e = some (((e.heardB s).e, ()), ()) := by
  cases hf : s.first with
  | true => exact s_l15Heard_t h hf hs hpl
  | false => exact s_l15Heard_f h hf hs hpl
theorem s_EndNew {addr port base room : Int} (ha : 0 ≤ addr ∧ addr ≤ 65535) (hp : 1 ≤ port ∧ port ≤ 255) (hb : 0 ≤ base ∧ base ≤ 65535) (hr : 1 ≤ room ∧ room ≤ 32) :
    F_spec_EndNew addr port base room = some (((Ed.new addr port base room).e, ()), ()) := by
  have hok : (Ed.new addr port base room).ok = true := by
    rw [Ed.ok_iff]
    refine ⟨by simp [Ed.new], ha, by simp [Ed.new], by simpa [Ed.new] using hp, by simp [Ed.new], hb, ?_, by simp only [Ed.new]; omega, ?_, by simp [Ed.new, Ck.ok, inn], by simp [Ed.new], by simp [Ed.new], by simp [Ed.new], by simp [Ed.new], by simp [Ed.new], by simp [Ed.new], by simp [Ed.new, Ed.opn], by simp [Ed.new]⟩
    · simp only [Ed.new, Mo.ok, Bool.and_eq_true, inn_iff, decide_eq_true_eq, List.length_nil, earlyOk]
      exact ⟨⟨⟨⟨⟨by omega, by first | omega | rfl⟩, by first | omega | exact ⟨by omega, by decide⟩⟩, by omega⟩, by first | omega | rfl⟩, trivial⟩
    · simp only [Ed.new, Ea.ok, Bool.and_eq_true, inn_iff, decide_eq_true_eq, List.length_nil, farOk]
      exact ⟨⟨⟨by omega, by omega⟩, by first | omega | exact decide_eq_true (by omega)⟩, trivial⟩
  have h := s_EndOk (Ed.new addr port base room) (by simp [Ed.new])
  rw [hok] at h
  simp only [Ed.new, Ed.e, Mo.e, Ea.e, Ck.e] at h
  simp (disch := omega) only [decide_true, decide_false, decide_eq_true, decide_eq_false, if_pos, if_neg, wr, cond_true, cond_false, Bool.not_true, Bool.not_false, Bool.and_true, Bool.true_and, Bool.and_false, Bool.false_and, Bool.or_true, Bool.true_or, Bool.or_false, Bool.false_or, Option.bind_some, Int.toNat_natCast, Bool.and_self, Bool.or_self, Bool.cond_self, reduceIte, inR_eq, big_eq, beq_self_eq_true, List.nil_append, List.append_nil, List.length_nil, List.length_append, F_spec_EndNew, s_ClockNew, Ck.e, h]
  rfl
end Go.VI.EwcVi
set_option linter.unusedVariables false
set_option linter.unusedSimpArgs false
namespace Go.VI.EwcVi
open Go Go.VI Go.VI.Ns

theorem s_EndHear_50 (e : Ed) (zz : TEnd) (now : Int) (on : Bool) (l : List Sg) (h : 0 ≤ e.out.sent ∧ e.out.sent ≤ e.out.keep.length) (h1 : 0 ≤ now ∧ now ≤ 1000000) (h2 : 0 ≤ e.pulse.wait ∧ e.pulse.wait ≤ 1000000) :
    L_spec_EndHear_50 (now, (), (), on, l.map Sg.e, zz, e.e, ()) = some (((e.arm now on).e, l.map Sg.e, ()), ()) := by
  simp (disch := omega) only [decide_true, decide_false, decide_eq_true, decide_eq_false, if_pos, if_neg, wr, cond_true, cond_false, Bool.not_true, Bool.not_false, Bool.and_true, Bool.true_and, Bool.and_false, Bool.false_and, Bool.or_true, Bool.true_or, Bool.or_false, Bool.false_or, Option.bind_some, Int.toNat_natCast, Bool.and_self, Bool.or_self, Bool.cond_self, reduceIte, inR_eq, big_eq, beq_self_eq_true, List.nil_append, List.append_nil, List.length_nil, List.length_append, L_spec_EndHear_50, s_l15Arm e now on h h1 h2]
theorem Ed.flushL_len (e : Ed) : e.flushL.length ≤ 41 := by
  have := Ed.bytes_len 40 e []
  unfold Ed.flushL Ed.tellB
  split
  · simp at *; omega
  · simp at *; omega
theorem s_bare (e : Ed) (he : e.ear.ok = true) (ho : e.out.ok = true) : (F_spec_l15Told e.e).bind (fun y4 => F_spec_l15Segment e.e (IntKind.i64.wrap (IntKind.i64.wrap (e.out.heard + e.out.sent) + y4.1.1))) = some ((e.bare.e, ()), ()) := by
  obtain ⟨h1, h2, h3, h4, h5, h6, h7, h8, h9⟩ := Mo.ok_sent ho
  have ht : 0 ≤ e.told ∧ e.told ≤ 1 := by unfold Ed.told; split <;> omega
  simp (disch := omega) only [decide_true, decide_false, decide_eq_true, decide_eq_false, if_pos, if_neg, wr, cond_true, cond_false, Bool.not_true, Bool.not_false, Bool.and_true, Bool.true_and, Bool.and_false, Bool.false_and, Bool.or_true, Bool.true_or, Bool.or_false, Bool.false_or, Option.bind_some, Int.toNat_natCast, Bool.and_self, Bool.or_self, Bool.cond_self, reduceIte, inR_eq, big_eq, beq_self_eq_true, List.nil_append, List.append_nil, List.length_nil, List.length_append, s_l15Told, s_l15Segment e _ he, Ed.bare]
theorem s_EndHear_46 (e : Ed) (zz : TEnd) (now was : Int) (on : Bool) {s : Sg} (hs : s.ok = true) (ho : e.out.ok = true) (he : e.ear.ok = true) (hp : e.pulse.ok = true) (hpl : -1 ≤ e.plast ∧ e.plast ≤ 1000000) (h1 : 0 ≤ now ∧ now ≤ 900000) :
    L_spec_EndHear_46 (now, (), (), (), was, on, s.e, zz, e.e, ()) = some ((((e.heardB s).flush.arm now on).e, (if (e.heardB s).flushL = [] ∧ (0 < s.long ∨ seqLess s.seq was = true) then [(e.heardB s).flush.bare] else (e.heardB s).flushL).map Sg.e, ()), ()) := by
  obtain ⟨k1, k2, k3⟩ := e.heardB_ear s he
  obtain ⟨n, t, f1, f2, f3, f4⟩ := (e.heardB s).flush_form
  have ho2 : (e.heardB s).flush.out.ok = true := by rw [f1]; exact f3 (by rw [k2]; exact ho)
  have he2 : (e.heardB s).flush.ear.ok = true := by rw [f1]; exact k1
  have hp2 : (e.heardB s).flush.pulse = e.pulse := by rw [f1]; exact k3
  have hc := Ck.ok_bd hp
  obtain ⟨m1, m2, m3, m4, m5, _⟩ := Mo.ok_sent ho2
  obtain ⟨d1, d2, d3, d4, d5, d6, d7⟩ := Sg.ok_bd hs
  have hfl := s_l15Flush (e.heardB s) (by rw [k2]; exact ho) k1
  have hlen := Ed.flushL_len (e.heardB s)
  have ht : 0 ≤ (e.heardB s).flush.told ∧ (e.heardB s).flush.told ≤ 1 := by unfold Ed.told; split <;> omega
  have h50 := fun l => s_EndHear_50 (e.heardB s).flush zz now on l ⟨m1, m2⟩ (by omega) (by rw [hp2]; omega)
  have hb : (e.heardB s).flush.bare = (e.heardB s).flush.seg ((e.heardB s).flush.out.heard + (e.heardB s).flush.out.sent + (e.heardB s).flush.told) := rfl
  have hsg := fun p => s_l15Segment (e.heardB s).flush p he2
  have hh := s_l15Heard he hs hpl
  generalize (e.heardB s).flush = x at *
  generalize (e.heardB s).flushL = l at *
  cases l with
  | nil =>
    have h50a := h50 [x.bare]
    simp only [List.map_cons, List.map_nil] at h50a
    rw [hb] at h50a ⊢
    have h50b := h50 []
    simp only [List.map_nil] at h50b
    by_cases c1 : 0 < s.long
    · simp (disch := omega) only [decide_true, decide_false, decide_eq_true, decide_eq_false, if_pos, if_neg, wr, cond_true, cond_false, Bool.not_true, Bool.not_false, Bool.and_true, Bool.true_and, Bool.and_false, Bool.false_and, Bool.or_true, Bool.true_or, Bool.or_false, Bool.false_or, Option.bind_some, Int.toNat_natCast, Bool.and_self, Bool.or_self, Bool.cond_self, reduceIte, inR_eq, big_eq, beq_self_eq_true, List.nil_append, List.append_nil, List.length_nil, List.length_append, L_spec_EndHear_46, hh, hfl, List.map_nil, s_SegmentLong s (by omega), s_l15Told, hsg, h50a, List.length_cons, Nat.zero_add, true_or, true_and, List.map_cons]
    · cases c2 : seqLess s.seq was with
      | true => simp (disch := omega) only [decide_true, decide_false, decide_eq_true, decide_eq_false, if_pos, if_neg, wr, cond_true, cond_false, Bool.not_true, Bool.not_false, Bool.and_true, Bool.true_and, Bool.and_false, Bool.false_and, Bool.or_true, Bool.true_or, Bool.or_false, Bool.false_or, Option.bind_some, Int.toNat_natCast, Bool.and_self, Bool.or_self, Bool.cond_self, reduceIte, inR_eq, big_eq, beq_self_eq_true, List.nil_append, List.append_nil, List.length_nil, List.length_append, L_spec_EndHear_46, hh, hfl, List.map_nil, s_SegmentLong s (by omega), s_SeqLess, c2, s_l15Told, hsg, h50a, List.length_cons, Nat.zero_add, or_true, true_and, List.map_cons]
      | false => simp (disch := omega) only [decide_true, decide_false, decide_eq_true, decide_eq_false, if_pos, if_neg, wr, cond_true, cond_false, Bool.not_true, Bool.not_false, Bool.and_true, Bool.true_and, Bool.and_false, Bool.false_and, Bool.or_true, Bool.true_or, Bool.or_false, Bool.false_or, Option.bind_some, Int.toNat_natCast, Bool.and_self, Bool.or_self, Bool.cond_self, reduceIte, inR_eq, big_eq, beq_self_eq_true, List.nil_append, List.append_nil, List.length_nil, List.length_append, L_spec_EndHear_46, hh, hfl, List.map_nil, s_SegmentLong s (by omega), s_SeqLess, c2, s_l15Told, hsg, h50b, List.length_cons, Nat.zero_add, or_false, Bool.false_eq_true, true_and, List.map_cons]
  | cons y l =>
    have h50b := h50 (y :: l)
    have c0 : ¬ ((y :: l : List Sg) = [] ∧ (0 < s.long ∨ seqLess s.seq was = true)) := fun h => by cases h.1
    rw [if_neg c0]
    have c3 : decide ((((y :: l : List Sg).map Sg.e).length : Int) = 0) = false := by apply decide_eq_false; simp only [List.length_map, List.length_cons]; omega
    simp (disch := omega) only [decide_true, decide_false, decide_eq_true, decide_eq_false, if_pos, if_neg, wr, cond_true, cond_false, Bool.not_true, Bool.not_false, Bool.and_true, Bool.true_and, Bool.and_false, Bool.false_and, Bool.or_true, Bool.true_or, Bool.or_false, Bool.false_or, Option.bind_some, Int.toNat_natCast, Bool.and_self, Bool.or_self, Bool.cond_self, reduceIte, inR_eq, big_eq, beq_self_eq_true, List.nil_append, List.append_nil, List.length_nil, List.length_append, L_spec_EndHear_46, hh, hfl, c3, h50b]
theorem s_deaf (e : Ed) (fr : Int) (s : Sg) : (bif (bif (bif (!decide (s.to = e.n)) then true else (decide (e.st = 0))) then true else (decide (e.st = 5))) then true else (bif (!decide (e.st = 1)) then (bif (!decide (fr = e.paddr)) then true else (!decide (s.fr = e.pn))) else false)) = e.deaf fr s := by
  simp only [Bool.cond_true_left, Bool.cond_false_right, Ed.deaf, decide_not, ne_eq]
theorem deaf_false {e : Ed} {fr : Int} {s : Sg} (h : e.deaf fr s = false) : s.to = e.n ∧ e.st ≠ 0 ∧ e.st ≠ 5 ∧ (e.st = 1 ∨ (e.st ≠ 1 ∧ fr = e.paddr ∧ s.fr = e.pn)) := by
  unfold Ed.deaf at h
  simp only [Bool.or_eq_false_iff, Bool.and_eq_false_iff, decide_eq_false_iff_not, ne_eq, Decidable.not_not] at h
  obtain ⟨⟨⟨h1, h2⟩, h3⟩, h4⟩ := h
  refine ⟨h1, h2, h3, ?_⟩
  by_cases a : e.st = 1
  · exact .inl a
  · rcases h4 with b | b
    · exact absurd b a
    · exact .inr ⟨a, b⟩
theorem s_EndHear_reset {e : Ed} (h : e.Is) {fr now : Int} {s : Sg} (hs : s.ok = true) (hfr : 0 ≤ fr ∧ fr ≤ 65535) (hn : 0 ≤ now ∧ now ≤ 900000) (hd : e.deaf fr s = false) (hr : s.reset = true) :
    F_spec_EndHear e.e fr s.e now = some (((if e.fails s then { e with st := 5, due := 0 } else e : Ed).e, [], ()), ()) := by
  obtain ⟨x1, x2, x3, x4⟩ := deaf_false hd
  have hst := h.st
  obtain ⟨k1, k2, k3, k4, k5, k6, k7⟩ := Ea.ok_bd h.ear
  have hb := h.base
  have hw := s_l15Wait e k1 (by omega)
  rcases x4 with a1 | ⟨a1, x4, x5⟩
  · have hf : e.fails s = false := by unfold Ed.fails Ed.mine; simp [a1]
    cases hh : s.heard <;> simp (disch := omega) only [decide_true, decide_false, decide_eq_true, decide_eq_false, if_pos, if_neg, wr, cond_true, cond_false, Bool.not_true, Bool.not_false, Bool.and_true, Bool.true_and, Bool.and_false, Bool.false_and, Bool.or_true, Bool.true_or, Bool.or_false, Bool.false_or, Option.bind_some, Int.toNat_natCast, Bool.and_self, Bool.or_self, Bool.cond_self, reduceIte, inR_eq, big_eq, beq_self_eq_true, List.nil_append, List.append_nil, List.length_nil, List.length_append, F_spec_EndHear, s_EndOk_is h, s_SegmentOk, hs, s_l1In, inn, s_l15Copy e (Is.small h).1, hh, hr, s_SeqOf, hf, L_spec_EndHear_12, Bool.false_eq_true]
  cases hh : s.heard with
  | true =>
    by_cases a2 : e.st = 2
    · by_cases am : s.ack = seqOf (e.base + 1)
      · have hf : e.fails s = true := by unfold Ed.fails Ed.mine; simp [a2, am, hh]
        simp (disch := omega) only [decide_true, decide_false, decide_eq_true, decide_eq_false, if_pos, if_neg, wr, cond_true, cond_false, Bool.not_true, Bool.not_false, Bool.and_true, Bool.true_and, Bool.and_false, Bool.false_and, Bool.or_true, Bool.true_or, Bool.or_false, Bool.false_or, Option.bind_some, Int.toNat_natCast, Bool.and_self, Bool.or_self, Bool.cond_self, reduceIte, inR_eq, big_eq, beq_self_eq_true, List.nil_append, List.append_nil, List.length_nil, List.length_append, F_spec_EndHear, s_EndOk_is h, s_SegmentOk, hs, s_l1In, inn, s_l15Copy e (Is.small h).1, hh, hr, s_SeqOf, hf, L_spec_EndHear_12]
      · have hf : e.fails s = false := by unfold Ed.fails Ed.mine; simp [a2, am, hh]
        simp (disch := omega) only [decide_true, decide_false, decide_eq_true, decide_eq_false, if_pos, if_neg, wr, cond_true, cond_false, Bool.not_true, Bool.not_false, Bool.and_true, Bool.true_and, Bool.and_false, Bool.false_and, Bool.or_true, Bool.true_or, Bool.or_false, Bool.false_or, Option.bind_some, Int.toNat_natCast, Bool.and_self, Bool.or_self, Bool.cond_self, reduceIte, inR_eq, big_eq, beq_self_eq_true, List.nil_append, List.append_nil, List.length_nil, List.length_append, F_spec_EndHear, s_EndOk_is h, s_SegmentOk, hs, s_l1In, inn, s_l15Copy e (Is.small h).1, hh, hr, s_SeqOf, hf, L_spec_EndHear_12, Bool.false_eq_true]
    · by_cases a3 : 3 ≤ e.st
      · by_cases aw : s.seq = seqOf e.wait
        · have hf : e.fails s = true := by unfold Ed.fails; simp [a3, aw]
          simp (disch := omega) only [decide_true, decide_false, decide_eq_true, decide_eq_false, if_pos, if_neg, wr, cond_true, cond_false, Bool.not_true, Bool.not_false, Bool.and_true, Bool.true_and, Bool.and_false, Bool.false_and, Bool.or_true, Bool.true_or, Bool.or_false, Bool.false_or, Option.bind_some, Int.toNat_natCast, Bool.and_self, Bool.or_self, Bool.cond_self, reduceIte, inR_eq, big_eq, beq_self_eq_true, List.nil_append, List.append_nil, List.length_nil, List.length_append, F_spec_EndHear, s_EndOk_is h, s_SegmentOk, hs, s_l1In, inn, s_l15Copy e (Is.small h).1, hh, hr, s_SeqOf, hf, L_spec_EndHear_12, hw]
        · have hf : e.fails s = false := by unfold Ed.fails; simp [a2, aw]
          simp (disch := omega) only [decide_true, decide_false, decide_eq_true, decide_eq_false, if_pos, if_neg, wr, cond_true, cond_false, Bool.not_true, Bool.not_false, Bool.and_true, Bool.true_and, Bool.and_false, Bool.false_and, Bool.or_true, Bool.true_or, Bool.or_false, Bool.false_or, Option.bind_some, Int.toNat_natCast, Bool.and_self, Bool.or_self, Bool.cond_self, reduceIte, inR_eq, big_eq, beq_self_eq_true, List.nil_append, List.append_nil, List.length_nil, List.length_append, F_spec_EndHear, s_EndOk_is h, s_SegmentOk, hs, s_l1In, inn, s_l15Copy e (Is.small h).1, hh, hr, s_SeqOf, hf, L_spec_EndHear_12, Bool.false_eq_true, hw]
      · exfalso; omega
  | false =>
    have hm : e.mine s = false := by unfold Ed.mine; rw [hh]; rfl
    by_cases a3 : 3 ≤ e.st
    · by_cases aw : s.seq = seqOf e.wait
      · have hf : e.fails s = true := by unfold Ed.fails; simp [a3, aw]
        simp (disch := omega) only [decide_true, decide_false, decide_eq_true, decide_eq_false, if_pos, if_neg, wr, cond_true, cond_false, Bool.not_true, Bool.not_false, Bool.and_true, Bool.true_and, Bool.and_false, Bool.false_and, Bool.or_true, Bool.true_or, Bool.or_false, Bool.false_or, Option.bind_some, Int.toNat_natCast, Bool.and_self, Bool.or_self, Bool.cond_self, reduceIte, inR_eq, big_eq, beq_self_eq_true, List.nil_append, List.append_nil, List.length_nil, List.length_append, F_spec_EndHear, s_EndOk_is h, s_SegmentOk, hs, s_l1In, inn, s_l15Copy e (Is.small h).1, hh, hr, s_SeqOf, hf, L_spec_EndHear_12, hw]
      · have hf : e.fails s = false := by unfold Ed.fails; simp [hm, aw]
        simp (disch := omega) only [decide_true, decide_false, decide_eq_true, decide_eq_false, if_pos, if_neg, wr, cond_true, cond_false, Bool.not_true, Bool.not_false, Bool.and_true, Bool.true_and, Bool.and_false, Bool.false_and, Bool.or_true, Bool.true_or, Bool.or_false, Bool.false_or, Option.bind_some, Int.toNat_natCast, Bool.and_self, Bool.or_self, Bool.cond_self, reduceIte, inR_eq, big_eq, beq_self_eq_true, List.nil_append, List.append_nil, List.length_nil, List.length_append, F_spec_EndHear, s_EndOk_is h, s_SegmentOk, hs, s_l1In, inn, s_l15Copy e (Is.small h).1, hh, hr, s_SeqOf, hf, L_spec_EndHear_12, Bool.false_eq_true, hw]
    · have hf : e.fails s = false := by unfold Ed.fails; simp [hm, a3]
      simp (disch := omega) only [decide_true, decide_false, decide_eq_true, decide_eq_false, if_pos, if_neg, wr, cond_true, cond_false, Bool.not_true, Bool.not_false, Bool.and_true, Bool.true_and, Bool.and_false, Bool.false_and, Bool.or_true, Bool.true_or, Bool.or_false, Bool.false_or, Option.bind_some, Int.toNat_natCast, Bool.and_self, Bool.or_self, Bool.cond_self, reduceIte, inR_eq, big_eq, beq_self_eq_true, List.nil_append, List.append_nil, List.length_nil, List.length_append, F_spec_EndHear, s_EndOk_is h, s_SegmentOk, hs, s_l1In, inn, s_l15Copy e (Is.small h).1, hh, hr, s_SeqOf, hf, L_spec_EndHear_12, Bool.false_eq_true]
theorem s_EndHear_deaf {e : Ed} (h : e.Is) {fr now : Int} {s : Sg} (hs : s.ok = true) (hfr : 0 ≤ fr ∧ fr ≤ 65535) (hn : 0 ≤ now ∧ now ≤ 900000) (hd : e.deaf fr s = true) :
    F_spec_EndHear e.e fr s.e now = some ((e.e, [], ()), ()) := by
  have hdf := s_deaf e fr s
  rw [hd] at hdf
  simp (disch := omega) only [decide_true, decide_false, decide_eq_true, decide_eq_false, if_pos, if_neg, wr, cond_true, cond_false, Bool.not_true, Bool.not_false, Bool.and_true, Bool.true_and, Bool.and_false, Bool.false_and, Bool.or_true, Bool.true_or, Bool.or_false, Bool.false_or, Option.bind_some, Int.toNat_natCast, Bool.and_self, Bool.or_self, Bool.cond_self, reduceIte, inR_eq, big_eq, beq_self_eq_true, List.nil_append, List.append_nil, List.length_nil, List.length_append, F_spec_EndHear, s_EndOk_is h, s_SegmentOk, hs, s_l1In, inn, s_l15Copy e (Is.small h).1, hdf]
theorem s_EndHear_asked {e : Ed} (h : e.Is) {fr now : Int} {s : Sg} (hs : s.ok = true) (hfr : 0 ≤ fr ∧ fr ≤ 65535) (hn : 0 ≤ now ∧ now ≤ 900000) (hd : e.deaf fr s = false) (hr : s.reset = false) (hq : e.st = 1 ∨ (e.st = 2 ∧ s.heard = false)) :
    F_spec_EndHear e.e fr s.e now = some (if s.first = false ∨ s.heard = true then (e.e, [], ()) else (((e.asked fr s).arm now true).e, [(e.asked fr s).fst.e], ()), ()) := by
  obtain ⟨x1, x2, x3, x4⟩ := deaf_false hd
  have hst := h.st
  obtain ⟨k1, k2, k3, k4, k5, k6, k7⟩ := Ea.ok_bd h.ear
  obtain ⟨m1, m2, m3, m4, m5, m6, m7, _⟩ := Mo.ok_sent h.out
  obtain ⟨d1, d2, d3, d4, d5, d6, d7⟩ := Sg.ok_bd hs
  have hc := Ck.ok_bd h.pulse
  have hb := h.base
  have he2 : (e.asked fr s).ear.ok = true := by
    simp only [Ed.asked, Ea.ok, Ea.free, Bool.and_eq_true, inn_iff, decide_eq_true_eq]
    exact ⟨⟨⟨by omega, by omega⟩, by first | omega | exact decide_eq_true k5⟩, rfl⟩
  have har := s_l15Arm (e.asked fr s) now true ⟨m1, m2⟩ (by omega) (by simp only [Ed.asked]; omega)
  have hfi := s_l15First (e.asked fr s) he2
  have hA : (e.asked fr s).e = (3, e.addr, e.n, fr, s.fr, e.base, e.out.e, (s.seq + 1, e.ear.room, e.ear.got, []), e.closed, e.ltold, e.lheard, e.plast, e.due, e.tries, e.pulse.e) := rfl
  rw [hA] at har hfi
  rcases hq with a1 | ⟨a1, hh⟩
  · have x4 : True := trivial
    cases hh : s.heard with
    | true =>
      simp (disch := omega) only [decide_true, decide_false, decide_eq_true, decide_eq_false, if_pos, if_neg, wr, cond_true, cond_false, Bool.not_true, Bool.not_false, Bool.and_true, Bool.true_and, Bool.and_false, Bool.false_and, Bool.or_true, Bool.true_or, Bool.or_false, Bool.false_or, Option.bind_some, Int.toNat_natCast, Bool.and_self, Bool.or_self, Bool.cond_self, reduceIte, inR_eq, big_eq, beq_self_eq_true, List.nil_append, List.append_nil, List.length_nil, List.length_append, F_spec_EndHear, s_EndOk_is h, s_SegmentOk, hs, s_l1In, inn, s_l15Copy e (Is.small h).1, hh, hr, s_SeqOf, or_true]
    | false =>
      cases hf : s.first with
      | false => simp (disch := omega) only [decide_true, decide_false, decide_eq_true, decide_eq_false, if_pos, if_neg, wr, cond_true, cond_false, Bool.not_true, Bool.not_false, Bool.and_true, Bool.true_and, Bool.and_false, Bool.false_and, Bool.or_true, Bool.true_or, Bool.or_false, Bool.false_or, Option.bind_some, Int.toNat_natCast, Bool.and_self, Bool.or_self, Bool.cond_self, reduceIte, inR_eq, big_eq, beq_self_eq_true, List.nil_append, List.append_nil, List.length_nil, List.length_append, F_spec_EndHear, s_EndOk_is h, s_SegmentOk, hs, s_l1In, inn, s_l15Copy e (Is.small h).1, hh, hr, hf, true_or]
      | true =>
        simp (disch := omega) only [decide_true, decide_false, decide_eq_true, decide_eq_false, if_pos, if_neg, wr, cond_true, cond_false, Bool.not_true, Bool.not_false, Bool.and_true, Bool.true_and, Bool.and_false, Bool.false_and, Bool.or_true, Bool.true_or, Bool.or_false, Bool.false_or, Option.bind_some, Int.toNat_natCast, Bool.and_self, Bool.or_self, Bool.cond_self, reduceIte, inR_eq, big_eq, beq_self_eq_true, List.nil_append, List.append_nil, List.length_nil, List.length_append, F_spec_EndHear, s_EndOk_is h, s_SegmentOk, hs, s_l1In, inn, s_l15Copy e (Is.small h).1, hh, hr, hf, Bool.false_eq_true, or_self, har, hfi]
        simp
  · obtain ⟨x4, x5⟩ : fr = e.paddr ∧ s.fr = e.pn := by rcases x4 with a | a; omega; exact a.2
    cases hf : s.first with
    | false => simp (disch := omega) only [decide_true, decide_false, decide_eq_true, decide_eq_false, if_pos, if_neg, wr, cond_true, cond_false, Bool.not_true, Bool.not_false, Bool.and_true, Bool.true_and, Bool.and_false, Bool.false_and, Bool.or_true, Bool.true_or, Bool.or_false, Bool.false_or, Option.bind_some, Int.toNat_natCast, Bool.and_self, Bool.or_self, Bool.cond_self, reduceIte, inR_eq, big_eq, beq_self_eq_true, List.nil_append, List.append_nil, List.length_nil, List.length_append, F_spec_EndHear, s_EndOk_is h, s_SegmentOk, hs, s_l1In, inn, s_l15Copy e (Is.small h).1, hh, hr, hf, true_or]
    | true =>
      simp (disch := omega) only [decide_true, decide_false, decide_eq_true, decide_eq_false, if_pos, if_neg, wr, cond_true, cond_false, Bool.not_true, Bool.not_false, Bool.and_true, Bool.true_and, Bool.and_false, Bool.false_and, Bool.or_true, Bool.true_or, Bool.or_false, Bool.false_or, Option.bind_some, Int.toNat_natCast, Bool.and_self, Bool.or_self, Bool.cond_self, reduceIte, inR_eq, big_eq, beq_self_eq_true, List.nil_append, List.append_nil, List.length_nil, List.length_append, F_spec_EndHear, s_EndOk_is h, s_SegmentOk, hs, s_l1In, inn, s_l15Copy e (Is.small h).1, hh, hr, hf, Bool.false_eq_true, or_self, har, hfi]
      simp
end Go.VI.EwcVi
set_option linter.unusedVariables false
set_option linter.unusedSimpArgs false
namespace Go.VI.EwcVi
open Go Go.VI Go.VI.Ns

theorem met_ok {e : Ed} (h : e.Is) {s : Sg} (hs : s.ok = true) : (e.met s).out.ok = true ∧ (e.met s).ear.ok = true := by
  obtain ⟨k1, k2, k3, k4, k5, k6, k7⟩ := Ea.ok_bd h.ear
  obtain ⟨d1, d2, d3, d4, d5, d6, d7⟩ := Sg.ok_bd hs
  have ho := h.out
  constructor
  · simp only [Mo.ok, Ed.met, Bool.and_eq_true, inn_iff, decide_eq_true_eq] at ho ⊢
    obtain ⟨⟨⟨⟨⟨h1, h2⟩, h3⟩, h4⟩, h5⟩, h6⟩ := ho
    exact ⟨⟨⟨⟨⟨h1, by first | exact h2 | exact decide_eq_true h2⟩, h3⟩, d5⟩, by first | exact h5 | exact decide_eq_true h5⟩, h6⟩
  · simp only [Ed.met, Ea.ok, Ea.free, Bool.and_eq_true, inn_iff, decide_eq_true_eq]
    exact ⟨⟨⟨by omega, by omega⟩, by first | omega | exact decide_eq_true k5⟩, rfl⟩
theorem s_EndHear_met {e : Ed} (h : e.Is) {fr now : Int} {s : Sg} (hs : s.ok = true) (hfr : 0 ≤ fr ∧ fr ≤ 65535) (hn : 0 ≤ now ∧ now ≤ 900000) (hd : e.deaf fr s = false) (hr : s.reset = false) (h2 : e.st = 2) (hh : s.heard = true) :
    F_spec_EndHear e.e fr s.e now = some (if s.first = false ∨ e.mine s = false then (e.e, [], ()) else (((e.met s).flush.arm now true).e, (if (e.met s).flushL = [] then [(e.met s).flush.bare] else (e.met s).flushL).map Sg.e, ()), ()) := by
  obtain ⟨x1, x2, x3, x4⟩ := deaf_false hd
  have hst := h.st
  obtain ⟨x4, x5⟩ : fr = e.paddr ∧ s.fr = e.pn := by rcases x4 with a | a; omega; exact a.2
  obtain ⟨k1, k2, k3, k4, k5, k6, k7⟩ := Ea.ok_bd h.ear
  obtain ⟨d1, d2, d3, d4, d5, d6, d7⟩ := Sg.ok_bd hs
  have hb := h.base
  cases hf : s.first with
  | false => simp (disch := omega) only [decide_true, decide_false, decide_eq_true, decide_eq_false, if_pos, if_neg, wr, cond_true, cond_false, Bool.not_true, Bool.not_false, Bool.and_true, Bool.true_and, Bool.and_false, Bool.false_and, Bool.or_true, Bool.true_or, Bool.or_false, Bool.false_or, Option.bind_some, Int.toNat_natCast, Bool.and_self, Bool.or_self, Bool.cond_self, reduceIte, inR_eq, big_eq, beq_self_eq_true, List.nil_append, List.append_nil, List.length_nil, List.length_append, F_spec_EndHear, s_EndOk_is h, s_SegmentOk, hs, s_l1In, inn, s_l15Copy e (Is.small h).1, hh, hr, hf, s_SeqOf, true_or]
  | true =>
    by_cases hm : s.ack = seqOf (e.base + 1)
    · have hmi : e.mine s = true := by unfold Ed.mine; simp [hm, hh]
      obtain ⟨q1, q2⟩ := met_ok h hs
      obtain ⟨n, t, f1, f2, f3, f4⟩ := (e.met s).flush_form
      have ho2 : (e.met s).flush.out.ok = true := by rw [f1]; exact f3 q1
      have he2 : (e.met s).flush.ear.ok = true := by rw [f1]; exact q2
      have hp2 : (e.met s).flush.pulse = e.pulse := by rw [f1]; rfl
      have hc := Ck.ok_bd h.pulse
      obtain ⟨m1, m2, m3, m4, m5, _⟩ := Mo.ok_sent ho2
      have hfl := s_l15Flush (e.met s) q1 q2
      have hlen := Ed.flushL_len (e.met s)
      have hA : (e.met s).e = (4, e.addr, e.n, e.paddr, e.pn, e.base, (e.out.heard, e.out.keep, e.out.sent, s.room, e.out.early), (s.seq + 1, e.ear.room, e.ear.got, []), e.closed, e.ltold, e.lheard, e.plast, e.due, e.tries, e.pulse.e) := rfl
      rw [hA] at hfl
      have ht : 0 ≤ (e.met s).flush.told ∧ (e.met s).flush.told ≤ 1 := by unfold Ed.told; split <;> omega
      have har := s_l15Arm (e.met s).flush now true ⟨m1, m2⟩ (by omega) (by rw [hp2]; omega)
      have hb : (e.met s).flush.bare = (e.met s).flush.seg ((e.met s).flush.out.heard + (e.met s).flush.out.sent + (e.met s).flush.told) := rfl
      have hsg := fun p => s_l15Segment (e.met s).flush p he2
      have c0 : ¬ (true = false ∨ e.mine s = false) := by rw [hmi]; simp
      rw [if_neg c0]
      generalize (e.met s).flush = x at *
      generalize (e.met s).flushL = l at *
      cases l with
      | nil =>
        rw [hb]
        simp (disch := omega) only [decide_true, decide_false, decide_eq_true, decide_eq_false, if_pos, if_neg, wr, cond_true, cond_false, Bool.not_true, Bool.not_false, Bool.and_true, Bool.true_and, Bool.and_false, Bool.false_and, Bool.or_true, Bool.true_or, Bool.or_false, Bool.false_or, Option.bind_some, Int.toNat_natCast, Bool.and_self, Bool.or_self, Bool.cond_self, reduceIte, inR_eq, big_eq, beq_self_eq_true, List.nil_append, List.append_nil, List.length_nil, List.length_append, F_spec_EndHear, s_EndOk_is h, s_SegmentOk, hs, s_l1In, inn, s_l15Copy e (Is.small h).1, hh, hr, hf, s_SeqOf, hfl, List.map_nil, List.map_cons, s_l15Told, hsg, List.length_cons, Nat.zero_add, har]
      | cons y l =>
        have c1 : ¬ ((y :: l : List Sg) = []) := by simp
        rw [if_neg c1]
        have c3 : decide ((((y :: l : List Sg).map Sg.e).length : Int) = 0) = false := by apply decide_eq_false; simp only [List.length_map, List.length_cons]; omega
        simp (disch := omega) only [decide_true, decide_false, decide_eq_true, decide_eq_false, if_pos, if_neg, wr, cond_true, cond_false, Bool.not_true, Bool.not_false, Bool.and_true, Bool.true_and, Bool.and_false, Bool.false_and, Bool.or_true, Bool.true_or, Bool.or_false, Bool.false_or, Option.bind_some, Int.toNat_natCast, Bool.and_self, Bool.or_self, Bool.cond_self, reduceIte, inR_eq, big_eq, beq_self_eq_true, List.nil_append, List.append_nil, List.length_nil, List.length_append, F_spec_EndHear, s_EndOk_is h, s_SegmentOk, hs, s_l1In, inn, s_l15Copy e (Is.small h).1, hh, hr, hf, s_SeqOf, hfl, c3, har]
    · have hmi : e.mine s = false := by unfold Ed.mine; simp [hm]
      simp (disch := omega) only [decide_true, decide_false, decide_eq_true, decide_eq_false, if_pos, if_neg, wr, cond_true, cond_false, Bool.not_true, Bool.not_false, Bool.and_true, Bool.true_and, Bool.and_false, Bool.false_and, Bool.or_true, Bool.true_or, Bool.or_false, Bool.false_or, Option.bind_some, Int.toNat_natCast, Bool.and_self, Bool.or_self, Bool.cond_self, reduceIte, inR_eq, big_eq, beq_self_eq_true, List.nil_append, List.append_nil, List.length_nil, List.length_append, F_spec_EndHear, s_EndOk_is h, s_SegmentOk, hs, s_l1In, inn, s_l15Copy e (Is.small h).1, hh, hr, hf, s_SeqOf, hmi, or_true]
theorem s_EndHear_again {e : Ed} (h : e.Is) {fr now : Int} {s : Sg} (hs : s.ok = true) (hfr : 0 ≤ fr ∧ fr ≤ 65535) (hn : 0 ≤ now ∧ now ≤ 900000) (hd : e.deaf fr s = false) (hr : s.reset = false) (h3 : e.st = 3) (hm : e.mine s = false) :
    F_spec_EndHear e.e fr s.e now = some ((e.e, (if s.first = true ∧ s.seq = seqOf (e.ear.next - 1) then [e.fst] else []).map Sg.e, ()), ()) := by
  obtain ⟨x1, x2, x3, x4⟩ := deaf_false hd
  have hst := h.st
  obtain ⟨x4, x5⟩ : fr = e.paddr ∧ s.fr = e.pn := by rcases x4 with a | a; omega; exact a.2
  obtain ⟨k1, k2, k3, k4, k5, k6, k7⟩ := Ea.ok_bd h.ear
  have hb := h.base
  have hfi := s_l15First e h.ear
  have hma : s.heard = false ∨ (s.heard = true ∧ ¬ s.ack = seqOf (e.base + 1)) := by
    unfold Ed.mine at hm
    cases hh : s.heard with
    | false => exact .inl rfl
    | true => right; rw [hh] at hm; simpa using hm
  rcases hma with hh | ⟨hh, ha⟩
  · cases hf : s.first with
    | false =>
      rw [if_neg (fun z => by cases z.1)]
      simp (disch := omega) only [decide_true, decide_false, decide_eq_true, decide_eq_false, if_pos, if_neg, wr, cond_true, cond_false, Bool.not_true, Bool.not_false, Bool.and_true, Bool.true_and, Bool.and_false, Bool.false_and, Bool.or_true, Bool.true_or, Bool.or_false, Bool.false_or, Option.bind_some, Int.toNat_natCast, Bool.and_self, Bool.or_self, Bool.cond_self, reduceIte, inR_eq, big_eq, beq_self_eq_true, List.nil_append, List.append_nil, List.length_nil, List.length_append, F_spec_EndHear, s_EndOk_is h, s_SegmentOk, hs, s_l1In, inn, s_l15Copy e (Is.small h).1, hh, hr, hf, List.map_nil]
    | true =>
      by_cases hq : s.seq = seqOf (e.ear.next - 1)
      · rw [if_pos ⟨rfl, hq⟩]
        simp (disch := omega) only [decide_true, decide_false, decide_eq_true, decide_eq_false, if_pos, if_neg, wr, cond_true, cond_false, Bool.not_true, Bool.not_false, Bool.and_true, Bool.true_and, Bool.and_false, Bool.false_and, Bool.or_true, Bool.true_or, Bool.or_false, Bool.false_or, Option.bind_some, Int.toNat_natCast, Bool.and_self, Bool.or_self, Bool.cond_self, reduceIte, inR_eq, big_eq, beq_self_eq_true, List.nil_append, List.append_nil, List.length_nil, List.length_append, F_spec_EndHear, s_EndOk_is h, s_SegmentOk, hs, s_l1In, inn, s_l15Copy e (Is.small h).1, hh, hr, hf, s_SeqOf, List.map_nil, List.map_cons, hfi]
      · rw [if_neg (fun z => hq z.2)]
        simp (disch := omega) only [decide_true, decide_false, decide_eq_true, decide_eq_false, if_pos, if_neg, wr, cond_true, cond_false, Bool.not_true, Bool.not_false, Bool.and_true, Bool.true_and, Bool.and_false, Bool.false_and, Bool.or_true, Bool.true_or, Bool.or_false, Bool.false_or, Option.bind_some, Int.toNat_natCast, Bool.and_self, Bool.or_self, Bool.cond_self, reduceIte, inR_eq, big_eq, beq_self_eq_true, List.nil_append, List.append_nil, List.length_nil, List.length_append, F_spec_EndHear, s_EndOk_is h, s_SegmentOk, hs, s_l1In, inn, s_l15Copy e (Is.small h).1, hh, hr, hf, s_SeqOf, List.map_nil, List.map_cons]
  · cases hf : s.first with
    | false =>
      rw [if_neg (fun z => by cases z.1)]
      simp (disch := omega) only [decide_true, decide_false, decide_eq_true, decide_eq_false, if_pos, if_neg, wr, cond_true, cond_false, Bool.not_true, Bool.not_false, Bool.and_true, Bool.true_and, Bool.and_false, Bool.false_and, Bool.or_true, Bool.true_or, Bool.or_false, Bool.false_or, Option.bind_some, Int.toNat_natCast, Bool.and_self, Bool.or_self, Bool.cond_self, reduceIte, inR_eq, big_eq, beq_self_eq_true, List.nil_append, List.append_nil, List.length_nil, List.length_append, F_spec_EndHear, s_EndOk_is h, s_SegmentOk, hs, s_l1In, inn, s_l15Copy e (Is.small h).1, hh, hr, hf, s_SeqOf, List.map_nil]
    | true =>
      by_cases hq : s.seq = seqOf (e.ear.next - 1)
      · rw [if_pos ⟨rfl, hq⟩]
        simp (disch := omega) only [decide_true, decide_false, decide_eq_true, decide_eq_false, if_pos, if_neg, wr, cond_true, cond_false, Bool.not_true, Bool.not_false, Bool.and_true, Bool.true_and, Bool.and_false, Bool.false_and, Bool.or_true, Bool.true_or, Bool.or_false, Bool.false_or, Option.bind_some, Int.toNat_natCast, Bool.and_self, Bool.or_self, Bool.cond_self, reduceIte, inR_eq, big_eq, beq_self_eq_true, List.nil_append, List.append_nil, List.length_nil, List.length_append, F_spec_EndHear, s_EndOk_is h, s_SegmentOk, hs, s_l1In, inn, s_l15Copy e (Is.small h).1, hh, hr, hf, s_SeqOf, List.map_nil, List.map_cons, hfi]
      · rw [if_neg (fun z => hq z.2)]
        simp (disch := omega) only [decide_true, decide_false, decide_eq_true, decide_eq_false, if_pos, if_neg, wr, cond_true, cond_false, Bool.not_true, Bool.not_false, Bool.and_true, Bool.true_and, Bool.and_false, Bool.false_and, Bool.or_true, Bool.true_or, Bool.or_false, Bool.false_or, Option.bind_some, Int.toNat_natCast, Bool.and_self, Bool.or_self, Bool.cond_self, reduceIte, inR_eq, big_eq, beq_self_eq_true, List.nil_append, List.append_nil, List.length_nil, List.length_append, F_spec_EndHear, s_EndOk_is h, s_SegmentOk, hs, s_l1In, inn, s_l15Copy e (Is.small h).1, hh, hr, hf, s_SeqOf, List.map_nil, List.map_cons]
theorem s_EndHear_on {e : Ed} (h : e.Is) {fr now : Int} {s : Sg} (hs : s.ok = true) (hfr : 0 ≤ fr ∧ fr ≤ 65535) (hn : 0 ≤ now ∧ now ≤ 900000) (hd : e.deaf fr s = false) (hr : s.reset = false) (h34 : e.st = 4 ∨ (e.st = 3 ∧ e.mine s = true)) :
    F_spec_EndHear e.e fr s.e now = some (((((e.known s).goOn s).arm now (decide (e.st ≠ 4) || (s.heard && (e.known s).fresh s))).e, ((e.known s).goOnL s).map Sg.e, ()), ()) := by
  obtain ⟨x1, x2, x3, x4⟩ := deaf_false hd
  have hst := h.st
  obtain ⟨x4, x5⟩ : fr = e.paddr ∧ s.fr = e.pn := by rcases x4 with a | a; omega; exact a.2
  obtain ⟨k1, k2, k3, k4, k5, k6, k7⟩ := Ea.ok_bd h.ear
  obtain ⟨d1, d2, d3, d4, d5, d6, d7⟩ := Sg.ok_bd hs
  have hb := h.base
  have hko : (e.known s).out.ok = true ∧ (e.known s).ear = e.ear ∧ (e.known s).pulse = e.pulse ∧ (e.known s).plast = e.plast := by
    unfold Ed.known
    split
    · exact ⟨(met_ok h hs).1, rfl, rfl, rfl⟩
    · exact ⟨h.out, rfl, rfl, rfl⟩
  obtain ⟨q1, q2, q3, q4⟩ := hko
  have hpl : -1 ≤ e.plast ∧ e.plast ≤ 1000000 := by
    by_cases hp : e.plast = -1
    · omega
    · have := (h.last hp).1; omega
  obtain ⟨u1, u2, u3⟩ := (e.known s).got_ear s
  have h46 := fun zz was on => s_EndHear_46 ((e.known s).got s) zz now was on hs ((e.known s).got_out s q1) (by rw [u1, q2]; exact h.ear) (by rw [u3, q3]; exact h.pulse) (by rw [u2, q4]; exact hpl) hn
  have hwa : (e.known s).wait = e.wait := by unfold Ed.wait; rw [q2, q4]
  have hgo : ((e.known s).goOn s) = (((e.known s).got s).heardB s).flush := rfl
  have hgl : ((e.known s).goOnL s) = if (((e.known s).got s).heardB s).flushL = [] ∧ (0 < s.long ∨ seqLess s.seq e.wait = true) then [(((e.known s).got s).heardB s).flush.bare] else (((e.known s).got s).heardB s).flushL := by
    unfold Ed.goOnL; rw [hwa]; rfl
  rw [hgo, hgl]
  have hw := s_l15Wait (e.known s) (by rw [q2]; exact k1) (by rw [q2]; omega)
  rw [hwa] at hw
  have htk := s_l15Took q1 hs
  cases hh : s.heard with
  | true =>
    have hg : (e.known s).got s = (e.known s).took s := by unfold Ed.got; rw [hh]; rfl
    rw [hg] at h46 ⊢
    rcases h34 with h4 | ⟨h3, hm⟩
    · have hk : e.known s = e := by unfold Ed.known; rw [if_neg (by omega)]
      simp only [hk] at h46 htk hw ⊢
      simp (disch := omega) only [decide_true, decide_false, decide_eq_true, decide_eq_false, if_pos, if_neg, wr, cond_true, cond_false, Bool.not_true, Bool.not_false, Bool.and_true, Bool.true_and, Bool.and_false, Bool.false_and, Bool.or_true, Bool.true_or, Bool.or_false, Bool.false_or, Option.bind_some, Int.toNat_natCast, Bool.and_self, Bool.or_self, Bool.cond_self, reduceIte, inR_eq, big_eq, beq_self_eq_true, List.nil_append, List.append_nil, List.length_nil, List.length_append, F_spec_EndHear, s_EndOk_is h, s_SegmentOk, hs, s_l1In, inn, s_l15Copy e (Is.small h).1, hh, hr, s_SeqOf, hw, htk, h46]
    · have hk : (e.known s).e = (4, e.addr, e.n, e.paddr, e.pn, e.base, (e.out.heard, e.out.keep, e.out.sent, s.room, e.out.early), e.ear.e, e.closed, e.ltold, e.lheard, e.plast, e.due, e.tries, e.pulse.e) := by unfold Ed.known; rw [if_pos h3]
      have ha : s.ack = seqOf (e.base + 1) := by unfold Ed.mine at hm; simp at hm; exact hm.2
      rw [hk] at htk hw
      simp (disch := omega) only [decide_true, decide_false, decide_eq_true, decide_eq_false, if_pos, if_neg, wr, cond_true, cond_false, Bool.not_true, Bool.not_false, Bool.and_true, Bool.true_and, Bool.and_false, Bool.false_and, Bool.or_true, Bool.true_or, Bool.or_false, Bool.false_or, Option.bind_some, Int.toNat_natCast, Bool.and_self, Bool.or_self, Bool.cond_self, reduceIte, inR_eq, big_eq, beq_self_eq_true, List.nil_append, List.append_nil, List.length_nil, List.length_append, F_spec_EndHear, s_EndOk_is h, s_SegmentOk, hs, s_l1In, inn, s_l15Copy e (Is.small h).1, hh, hr, s_SeqOf, hw, htk, h46]
  | false =>
    have hg : (e.known s).got s = e.known s := by unfold Ed.got; rw [hh]; rfl
    rw [hg] at h46 ⊢
    rcases h34 with h4 | ⟨h3, hm⟩
    · have hk : e.known s = e := by unfold Ed.known; rw [if_neg (by omega)]
      simp only [hk] at h46 htk hw ⊢
      simp (disch := omega) only [decide_true, decide_false, decide_eq_true, decide_eq_false, if_pos, if_neg, wr, cond_true, cond_false, Bool.not_true, Bool.not_false, Bool.and_true, Bool.true_and, Bool.and_false, Bool.false_and, Bool.or_true, Bool.true_or, Bool.or_false, Bool.false_or, Option.bind_some, Int.toNat_natCast, Bool.and_self, Bool.or_self, Bool.cond_self, reduceIte, inR_eq, big_eq, beq_self_eq_true, List.nil_append, List.append_nil, List.length_nil, List.length_append, F_spec_EndHear, s_EndOk_is h, s_SegmentOk, hs, s_l1In, inn, s_l15Copy e (Is.small h).1, hh, hr, s_SeqOf, hw, htk, h46]
    · unfold Ed.mine at hm; rw [hh] at hm; simp at hm
theorem s_EndHear {e : Ed} (h : e.Is) {fr now : Int} {s : Sg} (hs : s.ok = true) (hfr : 0 ≤ fr ∧ fr ≤ 65535) (hn : 0 ≤ now ∧ now ≤ 900000) :
    F_spec_EndHear e.e fr s.e now = some (((e.hear fr s now).e, (e.hearL fr s).map Sg.e, ()), ()) := by
  unfold Ed.hear Ed.hearL
  cases hd : e.deaf fr s with
  | true => simp only [if_true]; exact s_EndHear_deaf h hs hfr hn hd
  | false =>
    simp only [Bool.false_eq_true, if_false]
    cases hr : s.reset with
    | true =>
      simp only [if_true]
      exact s_EndHear_reset h hs hfr hn hd hr
    | false =>
      simp only [Bool.false_eq_true, if_false]
      by_cases h1 : e.st = 1 ∨ (e.st = 2 ∧ s.heard = false)
      · rw [if_pos h1, if_pos h1, s_EndHear_asked h hs hfr hn hd hr h1]
        by_cases c : s.first = false ∨ s.heard = true
        · simp only [if_pos c]; rfl
        · simp only [if_neg c]; rfl
      · rw [if_neg h1, if_neg h1]
        by_cases h2 : e.st = 2
        · have hh : s.heard = true := by
            cases hh : s.heard with
            | true => rfl
            | false => exact absurd (.inr ⟨h2, hh⟩) h1
          rw [if_pos h2, if_pos h2, s_EndHear_met h hs hfr hn hd hr h2 hh]
          by_cases c : s.first = false ∨ e.mine s = false
          · simp only [if_pos c]; rfl
          · simp only [if_neg c]
        · rw [if_neg h2, if_neg h2]
          by_cases h3 : e.st = 3 ∧ e.mine s = false
          · rw [if_pos h3, if_pos h3]
            exact s_EndHear_again h hs hfr hn hd hr h3.1 h3.2
          · rw [if_neg h3, if_neg h3]
            refine s_EndHear_on h hs hfr hn hd hr ?_
            obtain ⟨x1, x2, x3, x4⟩ := deaf_false hd
            have hst := h.st
            by_cases h4 : e.st = 4
            · exact .inl h4
            · right
              have h3' : e.st = 3 := by
                have : e.st ≠ 1 := fun z => h1 (.inl z)
                omega
              refine ⟨h3', ?_⟩
              cases hm : e.mine s with
              | true => rfl
              | false => exact absurd ⟨h3', hm⟩ h3
end Go.VI.EwcVi
set_option linter.unusedVariables false
set_option linter.unusedSimpArgs false
namespace Go.VI.EwcVi
open Go Go.VI Go.VI.Ns

theorem xor_bd {a b : Int} (ha : 0 ≤ a) (ha2 : a < 4611686018427387904) (hb : 0 ≤ b) (hb2 : b < 4611686018427387904) : 0 ≤ VI.bits (fun _ x y => x ^^^ y) .i64 a b ∧ VI.bits (fun _ x y => x ^^^ y) .i64 a b ≤ 4611686018427387904 := by
  obtain ⟨x, rfl⟩ := Int.eq_ofNat_of_zero_le ha
  obtain ⟨y, rfl⟩ := Int.eq_ofNat_of_zero_le hb
  have hx : x < 2 ^ 62 := by omega
  have hy : y < 2 ^ 62 := by omega
  have hxy := Nat.xor_lt_two_pow hx hy
  have e : VI.bits (fun _ x y => x ^^^ y) .i64 (x : Int) (y : Int) = IntKind.i64.wrap ((x ^^^ y : Nat) : Int) := by
    show IntKind.i64.wrap ((BitVec.ofInt 64 (x : Int) ^^^ BitVec.ofInt 64 (y : Int)).toNat : Int) = _
    simp only [BitVec.ofInt_natCast, BitVec.toNat_xor, BitVec.toNat_ofNat]
    rw [Nat.mod_eq_of_lt (by omega), Nat.mod_eq_of_lt (by omega)]
  rw [e, wr (by omega) (by omega)]
  omega
/-- a drawer that is in order: few bytes, and how far it is -/
def RdOk (r : List Int × Int) (m : Int) : Prop := (∀ x ∈ r.1, 0 ≤ x ∧ x ≤ 255) ∧ r.1.length ≤ 2000 ∧ 0 ≤ r.2 ∧ r.2 ≤ m
theorem rd_mem {l : List Int} {k : Int} (h : ∀ x ∈ l, 0 ≤ x ∧ x ≤ 255) : 0 ≤ rdI 0 l k.toNat ∧ rdI 0 l k.toNat ≤ 255 := by
  by_cases hk : k.toNat < l.length
  · have : rdI 0 l k.toNat = l[k.toNat] := by simp [rdI, hk]
    rw [this]
    exact h _ (List.getElem_mem hk)
  · have : rdI 0 l k.toNat = 0 := by simp [rdI, List.getElem?_eq_none (Nat.le_of_not_lt hk)]
    rw [this]; omega
theorem tmod_bd2 {a n : Int} (ha : 0 ≤ a) (hn : 0 < n) : 0 ≤ a.tmod n ∧ a.tmod n < n := by
  rw [Int.tmod_eq_emod_of_nonneg ha]
  exact ⟨Int.emod_nonneg _ (by omega), Int.emod_lt_of_pos _ hn⟩
theorem tdiv_bd {a n : Int} (ha : 0 ≤ a) (hn : 0 < n) : 0 ≤ a.tdiv n ∧ a.tdiv n ≤ a := by
  rw [Int.tdiv_eq_ediv_of_nonneg ha]
  exact ⟨Int.ediv_nonneg ha (by omega), Int.ediv_le_self _ ha⟩
theorem s_pick {r : List Int × Int} {m n : Int} (h : RdOk r m) (hm : m ≤ 1000000000) (hn : 1 ≤ n ∧ n ≤ 1000000000) :
    ∃ v r', F_spec_l20Rd_pick r n = some ((v, ()), (r', ())) ∧ 0 ≤ v ∧ v < n ∧ RdOk r' (m + 1) := by
  obtain ⟨h1, h2, h3, h4⟩ := h
  have w1 : IntKind.i64.wrap (r.2 + 1) = r.2 + 1 := wr (by omega) (by omega)
  have w2 : IntKind.i64.wrap (r.2 + 1 - 1) = r.2 := by rw [wr (by omega) (by omega)]; omega
  have hok : RdOk (r.1, r.2 + 1) (m + 1) := ⟨h1, h2, by simp only; omega, by simp only; omega⟩
  by_cases h0 : r.1.length = 0
  · refine ⟨0, (r.1, r.2 + 1), ?_, by omega, by omega, hok⟩
    have : ((r.1.length : Int)) = 0 := by omega
    simp (disch := omega) only [decide_true, decide_false, decide_eq_true, decide_eq_false, if_pos, if_neg, wr, cond_true, cond_false, Bool.not_true, Bool.not_false, Bool.and_true, Bool.true_and, Bool.and_false, Bool.false_and, Bool.or_true, Bool.true_or, Bool.or_false, Bool.false_or, Option.bind_some, Int.toNat_natCast, Bool.and_self, Bool.or_self, Bool.cond_self, reduceIte, inR_eq, big_eq, beq_self_eq_true, List.nil_append, List.append_nil, List.length_nil, List.length_append, F_spec_l20Rd_pick, w1]
  · by_cases hk : r.2 < r.1.length
    · have hv := rd_mem (k := r.2) h1
      have hb := tmod_bd2 (n := n) hv.1 (by omega)
      refine ⟨_, (r.1, r.2 + 1), ?_, hb.1, hb.2, hok⟩
      simp (disch := omega) only [decide_true, decide_false, decide_eq_true, decide_eq_false, if_pos, if_neg, wr, cond_true, cond_false, Bool.not_true, Bool.not_false, Bool.and_true, Bool.true_and, Bool.and_false, Bool.false_and, Bool.or_true, Bool.true_or, Bool.or_false, Bool.false_or, Option.bind_some, Int.toNat_natCast, Bool.and_self, Bool.or_self, Bool.cond_self, reduceIte, inR_eq, big_eq, beq_self_eq_true, List.nil_append, List.append_nil, List.length_nil, List.length_append, F_spec_l20Rd_pick, w1, w2]
    · have hl : (0 : Int) < r.1.length := by omega
      have t1 := tmod_bd2 (a := r.2) h3 hl
      have t2 := tmod_bd2 (a := r.2 * 7 + 3) (by omega) hl
      have v1 := rd_mem (k := r.2.tmod r.1.length) h1
      have v2 := rd_mem (k := (r.2 * 7 + 3).tmod r.1.length) h1
      have d1 := tdiv_bd (a := r.2) h3 hl
      generalize hX : rdI 0 r.1 (r.2.tmod r.1.length).toNat * 131 + rdI 0 r.1 ((r.2 * 7 + 3).tmod r.1.length).toNat * 1117 + r.2 * 29 + r.2.tdiv r.1.length * 53 = X
      have hX1 : 0 ≤ X ∧ X ≤ 1000000000000 := by rw [← hX]; omega
      have d2 := tdiv_bd (a := X) (n := 64) hX1.1 (by omega)
      have x1 := xor_bd (a := X) (b := X.tdiv 64) hX1.1 (by omega) d2.1 (by omega)
      have hb := tmod_bd2 (n := n) x1.1 (by omega)
      refine ⟨_, (r.1, r.2 + 1), ?_, hb.1, hb.2, hok⟩
      simp (disch := omega) only [decide_true, decide_false, decide_eq_true, decide_eq_false, if_pos, if_neg, wr, cond_true, cond_false, Bool.not_true, Bool.not_false, Bool.and_true, Bool.true_and, Bool.and_false, Bool.false_and, Bool.or_true, Bool.true_or, Bool.or_false, Bool.false_or, Option.bind_some, Int.toNat_natCast, Bool.and_self, Bool.or_self, Bool.cond_self, reduceIte, inR_eq, big_eq, beq_self_eq_true, List.nil_append, List.append_nil, List.length_nil, List.length_append, F_spec_l20Rd_pick, w1, w2, hX]
theorem s_odd {r : List Int × Int} {m n : Int} (h : RdOk r m) (hm : m ≤ 1000000000) (hn : 1 ≤ n ∧ n ≤ 1000000000) :
    ∃ v r', F_spec_l20Rd_odd r n = some ((v, ()), (r', ())) ∧ RdOk r' (m + 1) := by
  obtain ⟨v, r', h1, h2, h3, h4⟩ := s_pick h hm hn
  refine ⟨decide (v = n - 1), r', ?_, h4⟩
  simp (disch := omega) only [decide_true, decide_false, decide_eq_true, decide_eq_false, if_pos, if_neg, wr, cond_true, cond_false, Bool.not_true, Bool.not_false, Bool.and_true, Bool.true_and, Bool.and_false, Bool.false_and, Bool.or_true, Bool.true_or, Bool.or_false, Bool.false_or, Option.bind_some, Int.toNat_natCast, Bool.and_self, Bool.or_self, Bool.cond_self, reduceIte, inR_eq, big_eq, beq_self_eq_true, List.nil_append, List.append_nil, List.length_nil, List.length_append, F_spec_l20Rd_odd, h1]
theorem s_bytes_l : ∀ (n : Nat) (k : Nat) (m : Int) (r : List Int × Int) (acc : List Int), RdOk r m → m + 2 * k ≤ 1000000000 → acc.length + k ≤ 100000 → k < n → (∀ x ∈ acc, 0 ≤ x ∧ x ≤ 255) →
    ∃ l r', L_spec_l20Rd_bytes_2 n ((), (k : Int), acc, r, ()) = some ((l, ()), (r', ())) ∧ l.length = acc.length + k ∧ (∀ x ∈ l, 0 ≤ x ∧ x ≤ 255) ∧ RdOk r' (m + 2 * k)
  | 0, k, m, r, acc, h, hm, hl, hn, ha => by omega
  | n + 1, 0, m, r, acc, h, hm, hl, hn, ha => by
    refine ⟨acc, r, ?_, rfl, ha, by simpa using h⟩
    simp (disch := omega) only [decide_true, decide_false, decide_eq_true, decide_eq_false, if_pos, if_neg, wr, cond_true, cond_false, Bool.not_true, Bool.not_false, Bool.and_true, Bool.true_and, Bool.and_false, Bool.false_and, Bool.or_true, Bool.true_or, Bool.or_false, Bool.false_or, Option.bind_some, Int.toNat_natCast, Bool.and_self, Bool.or_self, Bool.cond_self, reduceIte, inR_eq, big_eq, beq_self_eq_true, List.nil_append, List.append_nil, List.length_nil, List.length_append, L_spec_l20Rd_bytes_2]
  | n + 1, k + 1, m, r, acc, h, hm, hl, hn, ha => by
    obtain ⟨v, r1, h1, h2, h3, h4⟩ := s_pick (n := 3) h (by omega) (by omega)
    have hk1 : ((k + 1 : Nat) : Int) - 1 = (k : Int) := by omega
    have hok : ∀ {r : List Int × Int} {m m' : Int}, RdOk r m → m ≤ m' → RdOk r m' := fun h hm => ⟨h.1, h.2.1, h.2.2.1, Int.le_trans h.2.2.2 hm⟩
    by_cases hv : v = 0
    · obtain ⟨w, r2, g1, g2, g3, g4⟩ := s_pick (n := 256) h4 (by omega) (by omega)
      have hw : IntKind.u8.wrap w = w := wr8 (by omega) (by omega)
      obtain ⟨l, r', i1, i2, i3, i4⟩ := s_bytes_l n k (m + 2) r2 (acc ++ [w]) (hok g4 (by omega)) (by omega) (by simp; omega) (by omega) (by
        intro x hx
        rcases List.mem_append.1 hx with hx | hx
        · exact ha x hx
        · simp only [List.mem_singleton] at hx; omega)
      refine ⟨l, r', ?_, by rw [i2]; simp; omega, i3, hok i4 (by omega)⟩
      simp (disch := omega) only [decide_true, decide_false, decide_eq_true, decide_eq_false, if_pos, if_neg, wr, cond_true, cond_false, Bool.not_true, Bool.not_false, Bool.and_true, Bool.true_and, Bool.and_false, Bool.false_and, Bool.or_true, Bool.true_or, Bool.or_false, Bool.false_or, Option.bind_some, Int.toNat_natCast, Bool.and_self, Bool.or_self, Bool.cond_self, reduceIte, inR_eq, big_eq, beq_self_eq_true, List.nil_append, List.append_nil, List.length_nil, List.length_append, L_spec_l20Rd_bytes_2, h1, g1, hw, hk1, i1, List.length_cons, Nat.zero_add]
    · obtain ⟨w, r2, g1, g2, g3, g4⟩ := s_pick (n := 3) h4 (by omega) (by omega)
      have hw0 : IntKind.i64.wrap (w + 97) = w + 97 := wr (by omega) (by omega)
      have hw : IntKind.u8.wrap (w + 97) = w + 97 := wr8 (by omega) (by omega)
      obtain ⟨l, r', i1, i2, i3, i4⟩ := s_bytes_l n k (m + 2) r2 (acc ++ [w + 97]) (hok g4 (by omega)) (by omega) (by simp; omega) (by omega) (by
        intro x hx
        rcases List.mem_append.1 hx with hx | hx
        · exact ha x hx
        · simp only [List.mem_singleton] at hx; omega)
      refine ⟨l, r', ?_, by rw [i2]; simp; omega, i3, hok i4 (by omega)⟩
      simp (disch := omega) only [decide_true, decide_false, decide_eq_true, decide_eq_false, if_pos, if_neg, wr, cond_true, cond_false, Bool.not_true, Bool.not_false, Bool.and_true, Bool.true_and, Bool.and_false, Bool.false_and, Bool.or_true, Bool.true_or, Bool.or_false, Bool.false_or, Option.bind_some, Int.toNat_natCast, Bool.and_self, Bool.or_self, Bool.cond_self, reduceIte, inR_eq, big_eq, beq_self_eq_true, List.nil_append, List.append_nil, List.length_nil, List.length_append, L_spec_l20Rd_bytes_2, h1, g1, hw, hk1, i1, List.length_cons, Nat.zero_add]
theorem s_bytes {r : List Int × Int} {m n : Int} (h : RdOk r m) (hm : m ≤ 100000000) (hn : 0 ≤ n ∧ n ≤ 1000) :
    ∃ l r', F_spec_l20Rd_bytes r n = some ((l, ()), (r', ())) ∧ (l.length : Int) = n ∧ (∀ x ∈ l, 0 ≤ x ∧ x ≤ 255) ∧ RdOk r' (m + 2 * n) := by
  obtain ⟨k, rfl⟩ := Int.eq_ofNat_of_zero_le hn.1
  obtain ⟨l, r', h1, h2, h3, h4⟩ := s_bytes_l fuel k m r [] h (by omega) (by simp; omega) (by rw [fuel_eq]; omega) (by simp)
  exact ⟨l, r', h1, by simp only [List.length_nil] at h2; omega, h3, h4⟩
end Go.VI.EwcVi
set_option linter.unusedVariables false
set_option linter.unusedSimpArgs false
namespace Go.VI.EwcVi
open Go Go.VI Go.VI.Ns

theorem RdOk.le {r : List Int × Int} {m m' : Int} (h : RdOk r m) (hm : m ≤ m') : RdOk r m' := ⟨h.1, h.2.1, h.2.2.1, Int.le_trans h.2.2.2 hm⟩
/-- what a draw of ends gives -/
def EndsOk (o : Option ((TEnd × TEnd × List TSegment × List TSegment × Unit) × (Ts_l20Rd × Unit))) (m : Int) (c : Nat) : Prop :=
  ∃ a b la lb r, o = some ((Ed.e a, Ed.e b, la.map Sg.e, lb.map Sg.e, ()), (r, ())) ∧ a.Is ∧ b.Is ∧ okL la ∧ okL lb ∧ la.length ≤ c ∧ lb.length ≤ c ∧ RdOk r m
set_option maxHeartbeats 2000000 in
theorem s_l20Ends_l (z1 z2 : TEnd) (M : Int) (C : Nat) (hM : M ≤ 10000000) (hC : C ≤ 10000000) : ∀ (k n : Nat) (m : Int) (a b : Ed) (la lb : List Sg) (r : List Int × Int), a.Is → b.Is → okL la → okL lb → la.length + 50 * k ≤ C → lb.length + 50 * k ≤ C → RdOk r m → m + 100 * k ≤ M → k ≤ 29 → k < n →
    EndsOk (L_spec_l20Ends_10 n ((), (), (), (), (), la.map Sg.e, lb.map Sg.e, (k : Int), z1, z2, a.e, b.e, r, ())) M C
  | k, 0, m, a, b, la, lb, r, ha, hb, hla, hlb, hca, hcb, hr, hm, hk, hn => by omega
  | 0, n + 1, m, a, b, la, lb, r, ha, hb, hla, hlb, hca, hcb, hr, hm, hk, hn => by
    refine ⟨a, b, la, lb, r, ?_, ha, hb, hla, hlb, by omega, by omega, hr.le (by omega)⟩
    simp (disch := omega) only [decide_true, decide_false, decide_eq_true, decide_eq_false, if_pos, if_neg, wr, cond_true, cond_false, Bool.not_true, Bool.not_false, Bool.and_true, Bool.true_and, Bool.and_false, Bool.false_and, Bool.or_true, Bool.true_or, Bool.or_false, Bool.false_or, Option.bind_some, Int.toNat_natCast, Bool.and_self, Bool.or_self, Bool.cond_self, reduceIte, inR_eq, big_eq, beq_self_eq_true, List.nil_append, List.append_nil, List.length_nil, List.length_append, L_spec_l20Ends_10]
  | k + 1, n + 1, m, a, b, la, lb, r, ha, hb, hla, hlb, hca, hcb, hr, hm, hk, hn => by
    have ih := fun m a b la lb r h1 h2 h3 h4 h5 h6 h7 h8 => s_l20Ends_l z1 z2 M C hM hC k n m a b la lb r h1 h2 h3 h4 h5 h6 h7 h8 (by omega) (by omega)
    have hk1 : ((k + 1 : Nat) : Int) - 1 = (k : Int) := by omega
    obtain ⟨v, r1, p1, p2, p3, p4⟩ := s_pick (n := 9) hr (by omega) (by omega)
    obtain ⟨u, r2, q1, q2, q3, q4⟩ := s_pick (n := 9) p4 (by omega) (by omega)
    have hnow : 0 ≤ 30 * (30 - ((k + 1 : Nat) : Int)) + v ∧ 30 * (30 - ((k + 1 : Nat) : Int)) + v ≤ 900000 := by omega
    generalize hN : 30 * (30 - ((k + 1 : Nat) : Int)) + v = now at hnow
    by_cases u0 : u = 0
    · obtain ⟨w, r3, w1, w2, w3, w4⟩ := s_pick (n := 9) q4 (by omega) (by omega)
      obtain ⟨d, r4, d1, d2, d3, d4⟩ := s_bytes w4 (n := w) (by omega) (by omega)
      have hw := s_EndWrite ha (data := d) (now := now) (by omega) hnow
      obtain ⟨l1, l2⟩ := Ed.writeL_ok ha d
      have ih1 := ih (m + 1 + 1 + 1 + 2 * w) (a.write d now) b la (lb ++ a.writeL d) r4 (ha.write d hnow) hb hla (okL_app hlb l1) (by omega) (by simp; omega) d4 (by omega)
      rw [List.map_append] at ih1
      simp (disch := omega) only [decide_true, decide_false, decide_eq_true, decide_eq_false, if_pos, if_neg, wr, cond_true, cond_false, Bool.not_true, Bool.not_false, Bool.and_true, Bool.true_and, Bool.and_false, Bool.false_and, Bool.or_true, Bool.true_or, Bool.or_false, Bool.false_or, Option.bind_some, Int.toNat_natCast, Bool.and_self, Bool.or_self, Bool.cond_self, reduceIte, inR_eq, big_eq, beq_self_eq_true, List.nil_append, List.append_nil, List.length_nil, List.length_append, L_spec_l20Ends_10, p1, q1, w1, d1, hN, hw, List.length_map, hk1]
      exact ih1
    by_cases u1 : u = 1
    · obtain ⟨w, r3, w1, w2, w3, w4⟩ := s_pick (n := 9) q4 (by omega) (by omega)
      obtain ⟨d, r4, d1, d2, d3, d4⟩ := s_bytes w4 (n := w) (by omega) (by omega)
      have hw := s_EndWrite hb (data := d) (now := now) (by omega) hnow
      obtain ⟨l1, l2⟩ := Ed.writeL_ok hb d
      have ih1 := ih (m + 1 + 1 + 1 + 2 * w) a (b.write d now) (la ++ b.writeL d) lb r4 ha (hb.write d hnow) (okL_app hla l1) hlb (by simp; omega) (by omega) d4 (by omega)
      rw [List.map_append] at ih1
      simp (disch := omega) only [decide_true, decide_false, decide_eq_true, decide_eq_false, if_pos, if_neg, wr, cond_true, cond_false, Bool.not_true, Bool.not_false, Bool.and_true, Bool.true_and, Bool.and_false, Bool.false_and, Bool.or_true, Bool.true_or, Bool.or_false, Bool.false_or, Option.bind_some, Int.toNat_natCast, Bool.and_self, Bool.or_self, Bool.cond_self, reduceIte, inR_eq, big_eq, beq_self_eq_true, List.nil_append, List.append_nil, List.length_nil, List.length_append, L_spec_l20Ends_10, p1, q1, w1, d1, hN, hw, List.length_map, hk1]
      exact ih1
    by_cases u2 : u = 2
    · obtain ⟨w, r3, w1, w2, w3, w4⟩ := s_pick (n := 9) q4 (by omega) (by omega)
      have hw := s_EndRead hb (many := w) (now := now) (by omega) hnow
      obtain ⟨l1, l2⟩ := Ed.readL_ok hb w
      have ih1 := ih (m + 1 + 1 + 1) a (b.read w) (la ++ b.readL w) lb r3 ha (hb.read w) (okL_app hla l1) hlb (by simp; omega) (by omega) w4 (by omega)
      rw [List.map_append] at ih1
      simp (disch := omega) only [decide_true, decide_false, decide_eq_true, decide_eq_false, if_pos, if_neg, wr, cond_true, cond_false, Bool.not_true, Bool.not_false, Bool.and_true, Bool.true_and, Bool.and_false, Bool.false_and, Bool.or_true, Bool.true_or, Bool.or_false, Bool.false_or, Option.bind_some, Int.toNat_natCast, Bool.and_self, Bool.or_self, Bool.cond_self, reduceIte, inR_eq, big_eq, beq_self_eq_true, List.nil_append, List.append_nil, List.length_nil, List.length_append, L_spec_l20Ends_10, p1, q1, w1, hN, hw, List.length_map, hk1]
      exact ih1
    by_cases u3 : u = 3
    · have hw := s_EndTick ha (now := now) hnow
      have hv := s_EndTick hb (now := now) hnow
      obtain ⟨l1, l2⟩ := Ed.tickL_ok ha hnow
      obtain ⟨l3, l4⟩ := Ed.tickL_ok hb hnow
      have ih1 := ih (m + 1 + 1) (a.tick now) (b.tick now) (la ++ b.tickL now) (lb ++ a.tickL now) r2 (ha.tick hnow) (hb.tick hnow) (okL_app hla l3) (okL_app hlb l1) (by simp; omega) (by simp; omega) q4 (by omega)
      rw [List.map_append, List.map_append] at ih1
      simp (disch := omega) only [decide_true, decide_false, decide_eq_true, decide_eq_false, if_pos, if_neg, wr, cond_true, cond_false, Bool.not_true, Bool.not_false, Bool.and_true, Bool.true_and, Bool.and_false, Bool.false_and, Bool.or_true, Bool.true_or, Bool.or_false, Bool.false_or, Option.bind_some, Int.toNat_natCast, Bool.and_self, Bool.or_self, Bool.cond_self, reduceIte, inR_eq, big_eq, beq_self_eq_true, List.nil_append, List.append_nil, List.length_nil, List.length_append, L_spec_l20Ends_10, p1, q1, hN, hw, hv, List.length_map, hk1]
      exact ih1
    by_cases u4 : u = 4
    · obtain ⟨w, r3, w1, w2, w3, w4⟩ := s_pick (n := 3) q4 (by omega) (by omega)
      by_cases w0 : w = 0
      · have hw := s_EndClose ha (now := now) hnow
        obtain ⟨l1, l2⟩ := Ed.closeL_ok ha
        have ih1 := ih (m + 1 + 1 + 1) (a.close now) b la (lb ++ a.closeL) r3 (ha.close hnow) hb hla (okL_app hlb l1) (by omega) (by simp; omega) w4 (by omega)
        rw [List.map_append] at ih1
        simp (disch := omega) only [decide_true, decide_false, decide_eq_true, decide_eq_false, if_pos, if_neg, wr, cond_true, cond_false, Bool.not_true, Bool.not_false, Bool.and_true, Bool.true_and, Bool.and_false, Bool.false_and, Bool.or_true, Bool.true_or, Bool.or_false, Bool.false_or, Option.bind_some, Int.toNat_natCast, Bool.and_self, Bool.or_self, Bool.cond_self, reduceIte, inR_eq, big_eq, beq_self_eq_true, List.nil_append, List.append_nil, List.length_nil, List.length_append, L_spec_l20Ends_10, p1, q1, w1, hN, hw, List.length_map, hk1]
        exact ih1
      · have ih1 := ih (m + 1 + 1 + 1) a b la lb r3 ha hb hla hlb (by omega) (by omega) w4 (by omega)
        simp (disch := omega) only [decide_true, decide_false, decide_eq_true, decide_eq_false, if_pos, if_neg, wr, cond_true, cond_false, Bool.not_true, Bool.not_false, Bool.and_true, Bool.true_and, Bool.and_false, Bool.false_and, Bool.or_true, Bool.true_or, Bool.or_false, Bool.false_or, Option.bind_some, Int.toNat_natCast, Bool.and_self, Bool.or_self, Bool.cond_self, reduceIte, inR_eq, big_eq, beq_self_eq_true, List.nil_append, List.append_nil, List.length_nil, List.length_append, L_spec_l20Ends_10, p1, q1, w1, hk1]
        exact ih1
    by_cases u56 : u = 5 ∨ u = 6
    · cases la with
      | nil =>
        have ih1 := ih (m + 1 + 1) a b [] lb r2 ha hb hla hlb (by simp; omega) (by omega) q4 (by omega)
        have h0 : ¬ (0 : Int) < (((([] : List Sg).map Sg.e).length : Nat) : Int) := by simp
        rcases u56 with u5 | u6
        · simp (disch := omega) only [decide_true, decide_false, decide_eq_true, decide_eq_false, if_pos, if_neg, wr, cond_true, cond_false, Bool.not_true, Bool.not_false, Bool.and_true, Bool.true_and, Bool.and_false, Bool.false_and, Bool.or_true, Bool.true_or, Bool.or_false, Bool.false_or, Option.bind_some, Int.toNat_natCast, Bool.and_self, Bool.or_self, Bool.cond_self, reduceIte, inR_eq, big_eq, beq_self_eq_true, List.nil_append, List.append_nil, List.length_nil, List.length_append, L_spec_l20Ends_10, p1, q1, hk1, h0]
          exact ih1
        · simp (disch := omega) only [decide_true, decide_false, decide_eq_true, decide_eq_false, if_pos, if_neg, wr, cond_true, cond_false, Bool.not_true, Bool.not_false, Bool.and_true, Bool.true_and, Bool.and_false, Bool.false_and, Bool.or_true, Bool.true_or, Bool.or_false, Bool.false_or, Option.bind_some, Int.toNat_natCast, Bool.and_self, Bool.or_self, Bool.cond_self, reduceIte, inR_eq, big_eq, beq_self_eq_true, List.nil_append, List.append_nil, List.length_nil, List.length_append, L_spec_l20Ends_10, p1, q1, hk1, h0]
          exact ih1
      | cons s la =>
        have hs : s.ok = true := hla s (by simp)
        have hw := s_EndHear ha (fr := 2) (now := now) hs (by omega) hnow
        obtain ⟨l1, l2⟩ := Ed.hearL_ok ha (fr := 2) hs (by omega)
        simp only [List.length_cons] at hca
        have ih1 := ih (m + 1 + 1) (a.hear 2 s now) b la (lb ++ a.hearL 2 s) r2 (ha.hear hs (by omega) hnow) hb (fun x hx => hla x (by simp [hx])) (okL_app hlb l1) (by omega) (by simp; omega) q4 (by omega)
        rw [List.map_append] at ih1
        have hrd : ∀ z, rdI z ((s :: la).map Sg.e) (0 : Int).toNat = s.e := fun z => rfl
        have hdr : ((s :: la).map Sg.e).drop (1 : Int).toNat = la.map Sg.e := rfl
        have hlen : ((s :: la).map Sg.e).length = la.length + 1 := by simp
        rcases u56 with u5 | u6
        · simp (disch := omega) only [decide_true, decide_false, decide_eq_true, decide_eq_false, if_pos, if_neg, wr, cond_true, cond_false, Bool.not_true, Bool.not_false, Bool.and_true, Bool.true_and, Bool.and_false, Bool.false_and, Bool.or_true, Bool.true_or, Bool.or_false, Bool.false_or, Option.bind_some, Int.toNat_natCast, Bool.and_self, Bool.or_self, Bool.cond_self, reduceIte, inR_eq, big_eq, beq_self_eq_true, List.nil_append, List.append_nil, List.length_nil, List.length_append, L_spec_l20Ends_10, p1, q1, hN, hrd, hdr, hlen, hw, List.length_map, hk1]
          exact ih1
        · simp (disch := omega) only [decide_true, decide_false, decide_eq_true, decide_eq_false, if_pos, if_neg, wr, cond_true, cond_false, Bool.not_true, Bool.not_false, Bool.and_true, Bool.true_and, Bool.and_false, Bool.false_and, Bool.or_true, Bool.true_or, Bool.or_false, Bool.false_or, Option.bind_some, Int.toNat_natCast, Bool.and_self, Bool.or_self, Bool.cond_self, reduceIte, inR_eq, big_eq, beq_self_eq_true, List.nil_append, List.append_nil, List.length_nil, List.length_append, L_spec_l20Ends_10, p1, q1, hN, hrd, hdr, hlen, hw, List.length_map, hk1]
          exact ih1
    · cases lb with
      | nil =>
        have ih1 := ih (m + 1 + 1) a b la [] r2 ha hb hla hlb (by omega) (by simp; omega) q4 (by omega)
        have h0 : ¬ (0 : Int) < (((([] : List Sg).map Sg.e).length : Nat) : Int) := by simp
        simp (disch := omega) only [decide_true, decide_false, decide_eq_true, decide_eq_false, if_pos, if_neg, wr, cond_true, cond_false, Bool.not_true, Bool.not_false, Bool.and_true, Bool.true_and, Bool.and_false, Bool.false_and, Bool.or_true, Bool.true_or, Bool.or_false, Bool.false_or, Option.bind_some, Int.toNat_natCast, Bool.and_self, Bool.or_self, Bool.cond_self, reduceIte, inR_eq, big_eq, beq_self_eq_true, List.nil_append, List.append_nil, List.length_nil, List.length_append, L_spec_l20Ends_10, p1, q1, hk1, h0]
        exact ih1
      | cons s lb =>
        have hs : s.ok = true := hlb s (by simp)
        have hw := s_EndHear hb (fr := 1) (now := now) hs (by omega) hnow
        obtain ⟨l1, l2⟩ := Ed.hearL_ok hb (fr := 1) hs (by omega)
        simp only [List.length_cons] at hcb
        have ih1 := ih (m + 1 + 1) a (b.hear 1 s now) (la ++ b.hearL 1 s) lb r2 ha (hb.hear hs (by omega) hnow) (okL_app hla l1) (fun x hx => hlb x (by simp [hx])) (by simp; omega) (by omega) q4 (by omega)
        rw [List.map_append] at ih1
        have hrd : ∀ z, rdI z ((s :: lb).map Sg.e) (0 : Int).toNat = s.e := fun z => rfl
        have hdr : ((s :: lb).map Sg.e).drop (1 : Int).toNat = lb.map Sg.e := rfl
        have hlen : ((s :: lb).map Sg.e).length = lb.length + 1 := by simp
        simp (disch := omega) only [decide_true, decide_false, decide_eq_true, decide_eq_false, if_pos, if_neg, wr, cond_true, cond_false, Bool.not_true, Bool.not_false, Bool.and_true, Bool.true_and, Bool.and_false, Bool.false_and, Bool.or_true, Bool.true_or, Bool.or_false, Bool.false_or, Option.bind_some, Int.toNat_natCast, Bool.and_self, Bool.or_self, Bool.cond_self, reduceIte, inR_eq, big_eq, beq_self_eq_true, List.nil_append, List.append_nil, List.length_nil, List.length_append, L_spec_l20Ends_10, p1, q1, hN, hrd, hdr, hlen, hw, List.length_map, hk1]
        exact ih1
end Go.VI.EwcVi
