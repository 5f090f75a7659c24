/- A network stack's ends on paper: clean functions over numbers and lists, and small laws for them. No condition. -/
import Derived.Test.YtinlgneijojjmaaGreatVA
import Derived.Laws.BitsLemmas
set_option linter.unusedVariables false
set_option linter.unusedSimpArgs false
namespace Go.VI.Ns
open Go Go.VI

/-! ### numbers -/
theorem wr {x : Int} (h1 : -9223372036854775808 ≤ x) (h2 : x ≤ 9223372036854775807) : IntKind.i64.wrap x = x := by
  rw [IntKind.wrap_i64]; omega
theorem wr8 {x : Int} (h1 : 0 ≤ x) (h2 : x ≤ 255) : IntKind.u8.wrap x = x := by
  simp only [IntKind.wrap, IntKind.signed, IntKind.bits]
  simp
  omega
theorem inR_eq {i : Int} {n : Nat} (h1 : 0 ≤ i) (h2 : i < (n : Int)) : inR i n = true := by simp [inR, h1, h2]
theorem big_eq {n : Nat} (h : n ≤ 1073741824) : Nat.ble n big = true := by
  rw [Nat.ble_eq]; exact h
theorem rd_app {α : Type} (d : α) (pre suf : List α) (x : α) : rdI d (pre ++ x :: suf) pre.length = x := by simp [rdI]
theorem rd_at {α : Type} {d : α} {l : List α} {i : Nat} {x : α} (h : l[i]? = some x) : rdI d l i = x := by simp [rdI, h]
/-- lo to hi, both counted -/
def inn (a lo hi : Int) : Bool := decide (lo ≤ a) && decide (a ≤ hi)
theorem inn_iff {a lo hi : Int} : inn a lo hi = true ↔ lo ≤ a ∧ a ≤ hi := by simp [inn]

/-! ### things -/
structure Mo where
  heard : Int
  keep : List Int
  sent : Int
  room : Int
  early : List (Int × Int)
structure Ea where
  next : Int
  room : Int
  got : List Int
  far : List (Int × Int)
structure Ck where
  mean : Int
  far : Int
  wait : Int
structure Sg where
  fr : Int
  to : Int
  seq : Int
  ack : Int
  room : Int
  first : Bool
  heard : Bool
  last : Bool
  reset : Bool
  ranges : List (Int × Int)
  data : List Int
structure Ed where
  st : Int
  addr : Int
  n : Int
  paddr : Int
  pn : Int
  base : Int
  out : Mo
  ear : Ea
  closed : Bool
  ltold : Bool
  lheard : Bool
  plast : Int
  due : Int
  tries : Int
  pulse : Ck
abbrev Mo.e (m : Mo) : Int × List Int × Int × Int × List (Int × Int) := (m.heard, m.keep, m.sent, m.room, m.early)
abbrev Ea.e (m : Ea) : Int × Int × List Int × List (Int × Int) := (m.next, m.room, m.got, m.far)
abbrev Ck.e (m : Ck) : Int × Int × Int := (m.mean, m.far, m.wait)
abbrev SgT : Type := Int × Int × Int × Int × Int × Bool × Bool × Bool × Bool × List (Int × Int) × List Int
abbrev Sg.e (s : Sg) : SgT := (s.fr, s.to, s.seq, s.ack, s.room, s.first, s.heard, s.last, s.reset, s.ranges, s.data)
abbrev EdT : Type := Int × Int × Int × Int × Int × Int × (Int × List Int × Int × Int × List (Int × Int)) × (Int × Int × List Int × List (Int × Int)) × Bool × Bool × Bool × Int × Int × Int × Int × Int × Int
abbrev Ed.e (s : Ed) : EdT := (s.st, s.addr, s.n, s.paddr, s.pn, s.base, s.out.e, s.ear.e, s.closed, s.ltold, s.lheard, s.plast, s.due, s.tries, s.pulse.e)
def Mo.of (m : Int × List Int × Int × Int × List (Int × Int)) : Mo := ⟨m.1, m.2.1, m.2.2.1, m.2.2.2.1, m.2.2.2.2⟩
def Ea.of (m : Int × Int × List Int × List (Int × Int)) : Ea := ⟨m.1, m.2.1, m.2.2.1, m.2.2.2⟩
def Sg.of (s : SgT) : Sg := ⟨s.1, s.2.1, s.2.2.1, s.2.2.2.1, s.2.2.2.2.1, s.2.2.2.2.2.1, s.2.2.2.2.2.2.1, s.2.2.2.2.2.2.2.1, s.2.2.2.2.2.2.2.2.1, s.2.2.2.2.2.2.2.2.2.1, s.2.2.2.2.2.2.2.2.2.2⟩
def Ed.of (s : EdT) : Ed := ⟨s.1, s.2.1, s.2.2.1, s.2.2.2.1, s.2.2.2.2.1, s.2.2.2.2.2.1, Mo.of s.2.2.2.2.2.2.1, Ea.of s.2.2.2.2.2.2.2.1, s.2.2.2.2.2.2.2.2.1, s.2.2.2.2.2.2.2.2.2.1, s.2.2.2.2.2.2.2.2.2.2.1, s.2.2.2.2.2.2.2.2.2.2.2.1, s.2.2.2.2.2.2.2.2.2.2.2.2.1, s.2.2.2.2.2.2.2.2.2.2.2.2.2.1, ⟨s.2.2.2.2.2.2.2.2.2.2.2.2.2.2.1, s.2.2.2.2.2.2.2.2.2.2.2.2.2.2.2.1, s.2.2.2.2.2.2.2.2.2.2.2.2.2.2.2.2⟩⟩
theorem Ed.of_e (s : EdT) : (Ed.of s).e = s := rfl
theorem Sg.of_e (s : SgT) : (Sg.of s).e = s := rfl
def Mo.zero : Mo := ⟨0, [], 0, 0, []⟩
def Ea.zero : Ea := ⟨0, 0, [], []⟩
def Ck.zero : Ck := ⟨0, 0, 0⟩
def Ed.zero : Ed := ⟨0, 0, 0, 0, 0, 0, Mo.zero, Ea.zero, false, false, false, 0, 0, 0, Ck.zero⟩

/-! ### what is ok -/
/-- ranges behind 'last', up to 'to', with gaps between them -/
def earlyOk (to : Int) : Int → List (Int × Int) → Bool
  | _, [] => true
  | last, r :: l => decide (last < r.1) && decide (r.1 < r.2) && decide (r.2 ≤ to) && earlyOk to r.2 l
def Mo.ok (m : Mo) : Bool := inn m.heard 0 1000000 && decide (m.keep.length ≤ 32) && inn m.sent 0 m.keep.length && inn m.room 0 255 && decide (m.early.length ≤ 2) && earlyOk (m.heard + m.sent) m.heard m.early
/-- early bytes behind 'last', ahead of 'to', in order -/
def farOk (to : Int) : Int → List (Int × Int) → Bool
  | _, [] => true
  | last, x :: l => decide (last < x.1) && decide (x.1 < to) && farOk to x.1 l
def Ea.free (e : Ea) : Int := e.room - e.got.length
def Ea.ok (e : Ea) : Bool := inn e.next 0 1000000 && inn e.room 1 32 && decide ((e.got.length : Int) ≤ e.room) && farOk (e.next + e.free) e.next e.far
def Ck.ok (c : Ck) : Bool := inn c.mean 0 80000 && inn c.far 0 80000 && inn c.wait 4 200
/-- something is to be heard yet -/
def Ed.opn (e : Ed) : Bool := decide (e.st = 2) || decide (e.st = 3) || (decide (e.st = 4) && (decide (e.out.keep ≠ []) || (e.ltold && !e.lheard)))
def Ed.ok (e : Ed) : Bool :=
  inn e.st 0 5 && inn e.addr 0 65535 && inn e.paddr 0 65535 && inn e.n 1 255 && inn e.pn 0 255 && inn e.base 0 65535 &&
  e.out.ok && decide (e.base < e.out.heard) && e.ear.ok && e.pulse.ok && inn e.due 0 1000000 && inn e.tries 0 8 &&
  (!e.lheard || e.ltold) && (!e.ltold || (e.closed && decide (e.out.sent = e.out.keep.length) && decide (4 ≤ e.st))) &&
  (decide (4 ≤ e.st) || (decide (e.out.sent = 0) && decide (e.out.heard = e.base + 1) && decide (e.plast = -1))) &&
  (decide (0 < e.pn) == decide (2 ≤ e.st)) && (e.opn || (decide (e.due = 0) && (decide (e.tries = 0) || decide (e.st = 5)))) &&
  (decide (e.plast = -1) || (inn e.plast e.ear.next 1000000 && e.ear.far.all fun x => decide (x.1 < e.plast)))

theorem earlyOk_mem {to : Int} : ∀ {last : Int} {l : List (Int × Int)}, earlyOk to last l = true → ∀ r ∈ l, last < r.1 ∧ r.1 < r.2 ∧ r.2 ≤ to
  | last, [], _, r, h => by cases h
  | last, x :: l, h, r, hr => by
    simp only [earlyOk, Bool.and_eq_true, decide_eq_true_eq] at h
    rcases List.mem_cons.1 hr with rfl | hr
    · exact ⟨h.1.1.1, h.1.1.2, h.1.2⟩
    · have := earlyOk_mem h.2 r hr
      omega
theorem farOk_mem {to : Int} : ∀ {last : Int} {l : List (Int × Int)}, farOk to last l = true → ∀ r ∈ l, last < r.1 ∧ r.1 < to
  | last, [], _, r, h => by cases h
  | last, x :: l, h, r, hr => by
    simp only [farOk, Bool.and_eq_true, decide_eq_true_eq] at h
    rcases List.mem_cons.1 hr with rfl | hr
    · exact h.1
    · have := farOk_mem h.2 r hr
      omega

theorem Mo.ok_sent {m : Mo} (h : m.ok = true) : 0 ≤ m.sent ∧ m.sent ≤ m.keep.length ∧ m.keep.length ≤ 32 ∧ 0 ≤ m.heard ∧ m.heard ≤ 1000000 ∧ 0 ≤ m.room ∧ m.room ≤ 255 ∧ m.early.length ≤ 2 ∧ earlyOk (m.heard + m.sent) m.heard m.early = true := by
  simp only [Mo.ok, Bool.and_eq_true, inn_iff, decide_eq_true_eq] at h
  obtain ⟨⟨⟨⟨⟨h1, h2⟩, h3⟩, h4⟩, h5⟩, h6⟩ := h
  exact ⟨h3.1, h3.2, h2, h1.1, h1.2, h4.1, h4.2, h5, h6⟩
theorem farOk_all {to p : Int} : ∀ {last : Int} {l : List (Int × Int)} {x : Int × Int}, farOk to last (l ++ [x]) = true → ((l ++ [x]).all fun y => decide (y.1 < p)) = decide (x.1 < p)
  | last, [], x, h => by simp
  | last, y :: l, x, h => by
    simp only [List.cons_append, farOk, Bool.and_eq_true, decide_eq_true_eq] at h
    have ih := farOk_all (p := p) h.2
    have : y.1 < x.1 := (farOk_mem h.2 x (by simp)).1
    simp only [List.cons_append, List.all_cons, ih]
    by_cases hx : x.1 < p
    · have : y.1 < p := by omega
      simp [this, hx]
    · simp [hx]
end Go.VI.Ns
set_option linter.unusedVariables false
set_option linter.unusedSimpArgs false
namespace Go.VI.Ns
open Go Go.VI

def seqOf (p : Int) : Int := p % 65536
theorem seqOf_in (p : Int) : 0 ≤ seqOf p ∧ seqOf p ≤ 65535 := by unfold seqOf; omega
theorem tmod_seq (p : Int) : (if p.tmod 65536 < 0 then p.tmod 65536 + 65536 else p.tmod 65536) = seqOf p := by
  unfold seqOf
  rw [Int.tmod_eq_emod]
  split <;> split <;> omega
theorem tmod_bd (p : Int) : -65536 < p.tmod 65536 ∧ p.tmod 65536 < 65536 := by
  rw [Int.tmod_eq_emod]
  split <;> omega

def Ed.wait (e : Ed) : Int := if e.plast = e.ear.next then e.ear.next + 1 else e.ear.next
/-- ranges of early bytes: one byte more -/
def rngStep (out : List (Int × Int)) (x : Int × Int) : List (Int × Int) :=
  match out.getLast? with
  | some r => if r.2 = x.1 then out.dropLast ++ [(r.1, r.2 + 1)] else if out.length < 2 then out ++ [(x.1, x.1 + 1)] else out
  | none => [(x.1, x.1 + 1)]
def rngS : List (Int × Int) → List (Int × Int) → List (Int × Int)
  | out, [] => out
  | out, x :: l => rngS (rngStep out x) l
theorem rngStep_len {out : List (Int × Int)} {x : Int × Int} (h : out.length ≤ 2) : (rngStep out x).length ≤ 2 := by
  unfold rngStep
  rcases List.eq_nil_or_concat out with rfl | ⟨o, r, rfl⟩
  · simp
  · rw [List.concat_eq_append] at h ⊢
    simp only [List.getLast?_append, List.getLast?_singleton, Option.some_or]
    have h' : o.length + 1 ≤ 2 := by simpa using h
    split
    · simp only [List.length_append, List.length_singleton, List.length_dropLast]; omega
    · split
      · rename_i h2
        have h2' : o.length + 1 < 2 := by simpa using h2
        simp only [List.length_append, List.length_singleton]; omega
      · simp only [List.length_append, List.length_singleton]; omega
theorem rngS_len : ∀ (l out : List (Int × Int)), out.length ≤ 2 → (rngS out l).length ≤ 2
  | [], out, h => h
  | x :: l, out, h => rngS_len l _ (rngStep_len h)
def Ed.rng (e : Ed) : List (Int × Int) := rngS [] e.ear.far
def Ed.seg (e : Ed) (at_ : Int) : Sg :=
  if e.st = 2 then ⟨e.n, e.pn, seqOf at_, 0, 0, false, false, false, false, [], []⟩
  else ⟨e.n, e.pn, seqOf at_, seqOf e.wait, e.ear.free, false, true, false, false, e.rng.map fun r => (seqOf r.1, seqOf r.2), []⟩
def Ed.fst (e : Ed) : Sg := { e.seg e.base with first := true }
def Ed.lst (e : Ed) : Sg := { e.seg (e.out.heard + e.out.keep.length) with last := true }
/-- when something goes again -/
def Ed.arm (e : Ed) (now : Int) (on : Bool) : Ed :=
  if e.opn then
    if on then { e with tries := 0, due := now + e.pulse.wait } else if e.due = 0 then { e with due := now + e.pulse.wait } else e
  else if on || decide (e.st ≠ 5) then { e with tries := 0, due := 0 } else { e with due := 0 }
def Mo.write (m : Mo) (data : List Int) : Mo := { m with keep := m.keep ++ data.take (32 - m.keep.length) }
def Mo.writeN (m : Mo) (data : List Int) : Int := if 32 - (m.keep.length : Int) < data.length then 32 - m.keep.length else data.length
/-- up to where bytes can be told -/
def Mo.upto (m : Mo) (limit : Int) : Int := min (min (m.keep.length : Int) m.room) (m.sent + limit)
def Mo.nxt (m : Mo) (limit : Int) : Mo := if m.upto limit ≤ m.sent then m else { m with sent := m.upto limit }
def Mo.nxtB (m : Mo) (limit : Int) : List Int := if m.upto limit ≤ m.sent then [] else (m.keep.take (m.upto limit).toNat).drop m.sent.toNat
/-- all new bytes that can be told -/
def Ed.bytes : Nat → Ed → List Sg → Ed × List Sg
  | 0, e, l => (e, l)
  | n + 1, e, l => if e.st = 4 ∧ e.out.nxtB 12 ≠ [] then Ed.bytes n { e with out := e.out.nxt 12 } (l ++ [{ ({ e with out := e.out.nxt 12 } : Ed).seg (e.out.heard + e.out.sent) with data := e.out.nxtB 12 }]) else (e, l)
def Ed.tellB (e : Ed) : Ed × List Sg := Ed.bytes 40 e []
theorem Mo.upto_le (m : Mo) (l : Int) : m.upto l ≤ m.keep.length := by unfold Mo.upto; omega
theorem Mo.nxt_ok {m : Mo} (h : m.ok = true) (l : Int) : (m.nxt l).ok = true := by
  unfold Mo.nxt
  split
  · exact h
  · rename_i hu
    have hle := m.upto_le l
    simp only [Mo.ok, Bool.and_eq_true, inn_iff, decide_eq_true_eq] at h ⊢
    obtain ⟨⟨⟨⟨⟨h1, h2⟩, h3⟩, h4⟩, h5⟩, h6⟩ := h
    refine ⟨⟨⟨⟨⟨h1, h2⟩, by omega, hle⟩, h4⟩, h5⟩, ?_⟩
    have mono : ∀ (l : List (Int × Int)) (t t' last : Int), t ≤ t' → earlyOk t last l = true → earlyOk t' last l = true := by
      intro l
      induction l with
      | nil => intro t t' last _ _; rfl
      | cons r l ih =>
        intro t t' last ht hh
        simp only [earlyOk, Bool.and_eq_true, decide_eq_true_eq] at hh ⊢
        exact ⟨⟨hh.1.1, by omega⟩, ih t t' _ ht hh.2⟩
    exact mono _ _ _ _ (by omega) h6
theorem Mo.write_ok {m : Mo} (h : m.ok = true) (d : List Int) : (m.write d).ok = true := by
  simp only [Mo.ok, Mo.write, Bool.and_eq_true, inn_iff, decide_eq_true_eq, List.length_append, List.length_take] at h ⊢
  obtain ⟨⟨⟨⟨⟨h1, h2⟩, h3⟩, h4⟩, h5⟩, h6⟩ := h
  exact ⟨⟨⟨⟨⟨h1, by omega⟩, by omega, by omega⟩, h4⟩, by first | exact h5 | exact decide_eq_true h5⟩, h6⟩
def Ea.rest (e : Ea) (many : Int) : Ea := { e with got := e.got.drop many.toNat }
def Ck.late (c : Ck) : Ck := { c with wait := min 200 (2 * c.wait) }
def Mo.agn (m : Mo) (limit : Int) : List Int := m.keep.take (min (min m.sent limit) (match m.early with
  | [] => m.sent
  | r :: _ => r.1 - m.heard)).toNat

theorem Ed.arm_form (e : Ed) (now : Int) (on : Bool) : ∃ d t, e.arm now on = { e with due := d, tries := t } := by
  unfold Ed.arm
  split
  · split
    · exact ⟨_, _, rfl⟩
    · split <;> exact ⟨_, _, rfl⟩
  · split <;> exact ⟨_, _, rfl⟩
theorem Ed.arm_ear (e : Ed) (now : Int) (on : Bool) : (e.arm now on).ear = e.ear := by
  obtain ⟨d, t, h⟩ := e.arm_form now on; rw [h]
theorem Ed.arm_out (e : Ed) (now : Int) (on : Bool) : (e.arm now on).out = e.out := by
  obtain ⟨d, t, h⟩ := e.arm_form now on; rw [h]

/-! ### operations of ends -/
def Ed.connect (e : Ed) (addr port now : Int) : Ed := ({ e with st := 2, paddr := addr, pn := port } : Ed).arm now true
/-- an end to which bytes were written, before it tells any -/
def Ed.put (e : Ed) (data : List Int) : Ed := if !e.closed && decide (e.st ≠ 5) then { e with out := e.out.write data } else e
def Ed.putN (e : Ed) (data : List Int) : Int := if !e.closed && decide (e.st ≠ 5) then e.out.writeN data else 0
def Ed.write (e : Ed) (data : List Int) (now : Int) : Ed := if e.st = 4 then (e.put data).tellB.1.arm now false else e.put data
def Ed.writeL (e : Ed) (data : List Int) : List Sg := if e.st = 4 then (e.put data).tellB.2 else []
def Ed.told (e : Ed) : Int := if e.ltold then 1 else 0
def Ed.read (e : Ed) (many : Int) : Ed := { e with ear := e.ear.rest many }
def Ed.readL (e : Ed) (many : Int) : List Sg := if e.st = 4 ∧ e.ear.free = 0 ∧ 0 < (e.ear.rest many).free then [(e.read many).seg (e.out.heard + e.out.sent + e.told)] else []
def Ed.listen (e : Ed) : Ed := if e.st = 0 then { e with st := 1 } else e
def Ed.goes (e : Ed) (now : Int) : Ed := { e with pulse := e.pulse.late, due := now + e.pulse.late.wait, tries := e.tries + 1 }
def Ed.tick (e : Ed) (now : Int) : Ed := if e.due = 0 ∨ now < e.due then e else if e.tries = 8 then { e with st := 5, due := 0 } else e.goes now
def Ed.tickL (e : Ed) (now : Int) : List Sg :=
  if e.due = 0 ∨ now < e.due then [] else if e.tries = 8 then [] else
    if e.st = 2 ∨ e.st = 3 then [(e.goes now).fst] else
      if 0 < e.out.sent then [{ (e.goes now).seg e.out.heard with data := e.out.agn 12 }] else
        if e.ltold && !e.lheard then [(e.goes now).lst] else [(e.goes now).seg (e.out.heard - 1)]
def Ed.lasts (e : Ed) : Bool := decide (e.st = 4) && !e.ltold && decide (e.out.sent = e.out.keep.length)
def Ed.close (e : Ed) (now : Int) : Ed := if e.lasts then ({ e with closed := true, ltold := true } : Ed).arm now false else ({ e with closed := true } : Ed).arm now false
def Ed.closeL (e : Ed) : List Sg := if e.lasts then [({ e with closed := true, ltold := true } : Ed).lst] else []
/-- what holds of the fields, of an end that is ok -/
structure Ed.Is (e : Ed) : Prop where
  st : 0 ≤ e.st ∧ e.st ≤ 5
  addr : 0 ≤ e.addr ∧ e.addr ≤ 65535
  paddr : 0 ≤ e.paddr ∧ e.paddr ≤ 65535
  n : 1 ≤ e.n ∧ e.n ≤ 255
  pn : 0 ≤ e.pn ∧ e.pn ≤ 255
  base : 0 ≤ e.base ∧ e.base ≤ 65535
  out : e.out.ok = true
  bh : e.base < e.out.heard
  ear : e.ear.ok = true
  pulse : e.pulse.ok = true
  due : 0 ≤ e.due ∧ e.due ≤ 1000000
  tries : 0 ≤ e.tries ∧ e.tries ≤ 8
  lh : e.lheard = true → e.ltold = true
  lt : e.ltold = true → e.closed = true ∧ e.out.sent = e.out.keep.length ∧ 4 ≤ e.st
  early : e.st < 4 → e.out.sent = 0 ∧ e.out.heard = e.base + 1 ∧ e.plast = -1
  peer : 0 < e.pn ↔ 2 ≤ e.st
  calm : e.opn = false → e.due = 0 ∧ (e.tries = 0 ∨ e.st = 5)
  last : e.plast ≠ -1 → (e.ear.next ≤ e.plast ∧ e.plast ≤ 1000000) ∧ ∀ x ∈ e.ear.far, x.1 < e.plast
theorem Ed.ok_iff (e : Ed) : e.ok = true ↔ e.Is := by
  constructor
  · intro h
    simp only [Ed.ok, Bool.and_eq_true, inn_iff, decide_eq_true_eq, Bool.or_eq_true, Bool.not_eq_true', List.all_eq_true] at h
    obtain ⟨⟨⟨⟨⟨⟨⟨⟨⟨⟨⟨⟨⟨⟨⟨⟨⟨h1, h2⟩, h3⟩, h4⟩, h5⟩, h6⟩, h7⟩, h8⟩, h9⟩, h10⟩, h11⟩, h12⟩, h13⟩, h14⟩, h15⟩, h16⟩, h17⟩, h18⟩ := h
    refine ⟨h1, h2, h3, h4, h5, h6, h7, h8, h9, h10, h11, h12, ?_, ?_, ?_, ?_, ?_, ?_⟩
    · intro h; rcases h13 with h' | h'
      · rw [h'] at h; cases h
      · exact h'
    · intro h; rcases h14 with h' | h'
      · rw [h'] at h; cases h
      · exact ⟨h'.1.1, h'.1.2, h'.2⟩
    · intro h; rcases h15 with h' | h'
      · omega
      · exact ⟨h'.1.1, h'.1.2, h'.2⟩
    · rw [beq_iff_eq] at h16
      have : (0 < e.pn) = (2 ≤ e.st) := by
        have := congrArg (· = true) h16
        simpa using this
      rw [this]
    · intro h; rcases h17 with h' | h'
      · rw [h'] at h; cases h
      · exact h'
    · intro h; rcases h18 with h' | h'
      · exact absurd h' h
      · exact h'
  · intro h
    simp only [Ed.ok, Bool.and_eq_true, inn_iff, decide_eq_true_eq, Bool.or_eq_true, Bool.not_eq_true', List.all_eq_true]
    refine ⟨⟨⟨⟨⟨⟨⟨⟨⟨⟨⟨⟨⟨⟨⟨⟨⟨h.st, h.addr⟩, h.paddr⟩, h.n⟩, h.pn⟩, h.base⟩, h.out⟩, h.bh⟩, h.ear⟩, h.pulse⟩, h.due⟩, h.tries⟩, ?_⟩, ?_⟩, ?_⟩, ?_⟩, ?_⟩, ?_⟩
    · cases hh : e.lheard with
      | false => exact .inl rfl
      | true => exact .inr (h.lh hh)
    · cases hh : e.ltold with
      | false => exact .inl rfl
      | true => have := h.lt hh; exact .inr ⟨⟨this.1, this.2.1⟩, this.2.2⟩
    · by_cases hh : 4 ≤ e.st
      · exact .inl hh
      · have := h.early (by omega); exact .inr ⟨⟨this.1, this.2.1⟩, this.2.2⟩
    · rw [beq_iff_eq]
      by_cases hh : 2 ≤ e.st
      · have := h.peer.2 hh; simp [hh, this]
      · have : ¬ 0 < e.pn := fun h' => hh (h.peer.1 h')
        simp [hh, this]
    · cases hh : e.opn with
      | true => exact .inl rfl
      | false => exact .inr (h.calm hh)
    · by_cases hh : e.plast = -1
      · exact .inl hh
      · exact .inr (h.last hh)
def Ed.new (addr port base room : Int) : Ed := ⟨0, addr, port, 0, 0, base, ⟨base + 1, [], 0, 0, []⟩, ⟨0, room, [], []⟩, false, false, false, -1, 0, 0, ⟨0, 0, 24⟩⟩
theorem Ck.ok_bd {c : Ck} (h : c.ok = true) : 0 ≤ c.mean ∧ c.mean ≤ 80000 ∧ 0 ≤ c.far ∧ c.far ≤ 80000 ∧ 4 ≤ c.wait ∧ c.wait ≤ 200 := by
  simp only [Ck.ok, Bool.and_eq_true, inn_iff] at h
  omega

/-! ### hearing -/
def Sg.ok (s : Sg) : Bool :=
  inn s.fr 1 255 && inn s.to 1 255 && inn s.seq 0 65535 && inn s.ack 0 65535 && inn s.room 0 255 && decide (s.ranges.length ≤ 2) && decide (s.data.length ≤ 12) &&
  (s.ranges.all fun r => inn r.1 0 65535 && inn r.2 0 65535) && (s.heard || (decide (s.ack = 0) && decide (s.room = 0) && decide (s.ranges.length = 0))) && (!s.reset || (!s.first && !s.last && decide (s.data.length = 0)))
def seqPlace (near seq : Int) : Int :=
  if inn near 0 1000000 && inn seq 0 65535 then (if 32768 ≤ seqOf (seq - seqOf near) then near + (seqOf (seq - seqOf near) - 65536) else near + seqOf (seq - seqOf near)) else near
/-- ranges that are taken: behind 'last', up to 'to', n more -/
def pickR (to : Int) : Int → Nat → List (Int × Int) → List (Int × Int)
  | _, _, [] => []
  | last, n, r :: l => if last < r.1 ∧ r.1 < r.2 ∧ r.2 ≤ to ∧ 0 < n then r :: pickR to r.2 (n - 1) l else pickR to last n l
def Mo.hear (m : Mo) (at_ room : Int) (ranges : List (Int × Int)) : Mo :=
  if at_ < m.heard ∨ m.sent < at_ - m.heard then m else if 1000000 < at_ then Mo.zero else
    ⟨at_, m.keep.drop (at_ - m.heard).toNat, m.sent - (at_ - m.heard), room, pickR (at_ + (m.sent - (at_ - m.heard))) at_ 2 ranges⟩
def Mo.hearN (m : Mo) (at_ : Int) : Int := if at_ < m.heard ∨ m.sent < at_ - m.heard then 0 else if 1000000 < at_ then 0 else at_ - m.heard
/-- a last mark that was heard -/
def Ed.mark (e : Ed) (s : Sg) : Bool := e.ltold && decide (seqPlace e.out.heard s.ack = e.out.heard + e.out.keep.length + 1)
def Ed.tookAt (e : Ed) (s : Sg) : Int := if e.mark s then e.out.heard + e.out.keep.length else seqPlace e.out.heard s.ack
def Ed.tookM (e : Ed) (s : Sg) : Mo := e.out.hear (e.tookAt s) s.room (s.ranges.map fun r => (seqPlace e.out.heard r.1, seqPlace e.out.heard r.2))
def Ed.takes (e : Ed) (s : Sg) : Bool := (e.tookM s).ok && decide (e.out.heard ≤ (e.tookM s).heard)
def Ed.took (e : Ed) (s : Sg) : Ed := { e with lheard := e.lheard || e.mark s, out := if e.takes s then e.tookM s else e.out }
def Ed.fresh (e : Ed) (s : Sg) : Bool :=
  (e.mark s && !e.lheard) || (e.takes s && (decide (0 < e.out.hearN (e.tookAt s)) || (decide (0 < (e.tookM s).room) && decide (e.out.room = 0))))
/-- one early byte more, if none is at its place -/
def insF (x : Int × Int) : List (Int × Int) → List (Int × Int)
  | [] => [x]
  | y :: l => if x.1 < y.1 then x :: y :: l else if x.1 = y.1 then y :: l else y :: insF x l
def fillF (next lim : Int) : Int → List Int → List (Int × Int) → List (Int × Int)
  | _, [], far => far
  | at_, b :: d, far => fillF next lim (at_ + 1) d (if next ≤ at_ ∧ at_ < lim then insF (at_, b) far else far)
def drain : Int → List Int → List (Int × Int) → Int × List Int × List (Int × Int)
  | n, g, [] => (n, g, [])
  | n, g, x :: l => if x.1 = n then drain (n + 1) (g ++ [x.2]) l else (n, g, x :: l)
def Ea.hearD (e : Ea) (at_ : Int) (data : List Int) : Int × List Int × List (Int × Int) := drain e.next e.got (fillF e.next (e.next + e.free) at_ data e.far)
def Ea.hear (e : Ea) (at_ : Int) (data : List Int) : Ea :=
  if 1000000 < at_ ∨ 1000000 < (e.hearD at_ data).1 then Ea.zero else ⟨(e.hearD at_ data).1, e.room, (e.hearD at_ data).2.1, (e.hearD at_ data).2.2⟩
def Ed.byteAt (e : Ed) (s : Sg) : Int := seqPlace e.ear.next s.seq + (if s.first then 1 else 0)
def Ed.heardE (e : Ed) (s : Sg) : Ea := e.ear.hear (e.byteAt s) s.data
def Ed.heardB (e : Ed) (s : Sg) : Ed :=
  if e.byteAt s < 0 ∨ (0 ≤ e.plast ∧ e.plast < e.byteAt s + s.data.length) then e else
    if (e.heardE s).ok then
      { e with ear := e.heardE s, plast := if s.last = true ∧ e.plast = -1 ∧ (e.heardE s).next ≤ e.byteAt s + s.data.length ∧ e.byteAt s + s.data.length ≤ (e.heardE s).next + (e.heardE s).free ∧ e.byteAt s + s.data.length ≤ 1000000 ∧ ∀ x ∈ (e.heardE s).far, x.1 < e.byteAt s + s.data.length then e.byteAt s + s.data.length else e.plast }
    else e
def Sg.long (s : Sg) : Int := s.data.length + (if s.first then 1 else 0) + (if s.last then 1 else 0)
def seqLess (a b : Int) : Bool := inn (seqOf (seqOf b - seqOf a)) 1 32767
/-- tells all, its last mark, too -/
def Ed.flush (e : Ed) : Ed := if e.tellB.1.st = 4 ∧ e.tellB.1.closed = true ∧ e.tellB.1.ltold = false ∧ e.tellB.1.out.sent = e.tellB.1.out.keep.length then { e.tellB.1 with ltold := true } else e.tellB.1
def Ed.flushL (e : Ed) : List Sg := if e.tellB.1.st = 4 ∧ e.tellB.1.closed = true ∧ e.tellB.1.ltold = false ∧ e.tellB.1.out.sent = e.tellB.1.out.keep.length then e.tellB.2 ++ [({ e.tellB.1 with ltold := true } : Ed).lst] else e.tellB.2
def Ed.bare (e : Ed) : Sg := e.seg (e.out.heard + e.out.sent + e.told)

/-! ### a segment comes -/
def Ed.mine (e : Ed) (s : Sg) : Bool := s.heard && decide (s.ack = seqOf (e.base + 1))
/-- it is not for this end -/
def Ed.deaf (e : Ed) (fr : Int) (s : Sg) : Bool := decide (s.to ≠ e.n) || decide (e.st = 0) || decide (e.st = 5) || (decide (e.st ≠ 1) && (decide (fr ≠ e.paddr) || decide (s.fr ≠ e.pn)))
def Ed.got (e : Ed) (s : Sg) : Ed := if s.heard then e.took s else e
def Ed.goOn (e : Ed) (s : Sg) : Ed := ((e.got s).heardB s).flush
def Ed.goOnL (e : Ed) (s : Sg) : List Sg :=
  if ((e.got s).heardB s).flushL = [] ∧ (0 < s.long ∨ seqLess s.seq e.wait = true) then [(e.goOn s).bare] else ((e.got s).heardB s).flushL
/-- another one asked -/
def Ed.asked (e : Ed) (fr : Int) (s : Sg) : Ed := { e with st := 3, paddr := fr, pn := s.fr, ear := { e.ear with next := s.seq + 1, far := [] } }
/-- the other one answered -/
def Ed.met (e : Ed) (s : Sg) : Ed := { e with st := 4, ear := { e.ear with next := s.seq + 1, far := [] }, out := { e.out with room := s.room } }
/-- what was answered was heard -/
def Ed.known (e : Ed) (s : Sg) : Ed := if e.st = 3 then { e with st := 4, out := { e.out with room := s.room } } else e
def Ed.fails (e : Ed) (s : Sg) : Bool := (decide (e.st = 2) && e.mine s) || (decide (3 ≤ e.st) && decide (s.seq = seqOf e.wait))
def Ed.hear (e : Ed) (fr : Int) (s : Sg) (now : Int) : Ed :=
  if e.deaf fr s then e else
  if s.reset then (if e.fails s then { e with st := 5, due := 0 } else e) else
  if e.st = 1 ∨ (e.st = 2 ∧ s.heard = false) then (if s.first = false ∨ s.heard = true then e else (e.asked fr s).arm now true) else
  if e.st = 2 then (if s.first = false ∨ e.mine s = false then e else (e.met s).flush.arm now true) else
  if e.st = 3 ∧ e.mine s = false then e else
  ((e.known s).goOn s).arm now (decide (e.st ≠ 4) || (s.heard && (e.known s).fresh s))
def Ed.hearL (e : Ed) (fr : Int) (s : Sg) : List Sg :=
  if e.deaf fr s then [] else
  if s.reset then [] else
  if e.st = 1 ∨ (e.st = 2 ∧ s.heard = false) then (if s.first = false ∨ s.heard = true then [] else [(e.asked fr s).fst]) else
  if e.st = 2 then (if s.first = false ∨ e.mine s = false then [] else if (e.met s).flushL = [] then [(e.met s).flush.bare] else (e.met s).flushL) else
  if e.st = 3 ∧ e.mine s = false then (if s.first = true ∧ s.seq = seqOf (e.ear.next - 1) then [e.fst] else []) else
  (e.known s).goOnL s
/-- telling turns nothing but how many were sent -/
theorem Ed.bytes_form : ∀ (k : Nat) (e : Ed) (l : List Sg), ∃ n, (Ed.bytes k e l).1 = { e with out := { e.out with sent := n } } ∧ e.out.sent ≤ n ∧ (e.out.ok = true → ({ e.out with sent := n } : Mo).ok = true)
  | 0, e, l => ⟨e.out.sent, rfl, Int.le_refl _, fun h => h⟩
  | k + 1, e, l => by
    unfold Ed.bytes
    split
    · obtain ⟨n, h1, h2, h3⟩ := Ed.bytes_form k { e with out := e.out.nxt 12 } (l ++ [{ ({ e with out := e.out.nxt 12 } : Ed).seg (e.out.heard + e.out.sent) with data := e.out.nxtB 12 }])
      have hx : ∃ n, e.out.nxt 12 = { e.out with sent := n } ∧ e.out.sent ≤ n := by
        unfold Mo.nxt
        split
        · exact ⟨e.out.sent, rfl, Int.le_refl _⟩
        · exact ⟨_, rfl, by omega⟩
      obtain ⟨m, hm, hm2⟩ := hx
      have ok := fun h => h3 (Mo.nxt_ok (m := e.out) h 12)
      simp only [hm] at h1 h2 ok ⊢
      exact ⟨n, h1, by omega, ok⟩
    · exact ⟨e.out.sent, rfl, Int.le_refl _, fun h => h⟩
theorem Ed.flush_form (e : Ed) : ∃ n t, e.flush = { e with out := { e.out with sent := n }, ltold := t } ∧ e.out.sent ≤ n ∧ (e.out.ok = true → ({ e.out with sent := n } : Mo).ok = true) ∧ (t ≠ e.ltold → t = true ∧ e.st = 4 ∧ e.closed = true ∧ n = e.out.keep.length) := by
  obtain ⟨n, h1, h2, h3⟩ := Ed.bytes_form 40 e []
  have h1 : e.tellB.1 = { e with out := { e.out with sent := n } } := h1
  unfold Ed.flush
  rw [h1]
  split
  · rename_i hc
    exact ⟨n, true, rfl, h2, h3, fun _ => ⟨rfl, hc.1, hc.2.1, hc.2.2.2⟩⟩
  · exact ⟨n, e.ltold, rfl, h2, h3, fun h => absurd rfl h⟩
theorem Ed.got_ear (e : Ed) (s : Sg) : (e.got s).ear = e.ear ∧ (e.got s).plast = e.plast ∧ (e.got s).pulse = e.pulse := by
  unfold Ed.got; split <;> exact ⟨rfl, rfl, rfl⟩
theorem Ed.got_out (e : Ed) (s : Sg) (h : e.out.ok = true) : (e.got s).out.ok = true := by
  unfold Ed.got
  split
  · unfold Ed.took
    simp only
    split
    · rename_i h2
      unfold Ed.takes at h2
      simp only [Bool.and_eq_true] at h2
      exact h2.1
    · exact h
  · exact h
theorem Ed.heardB_ear (e : Ed) (s : Sg) (h : e.ear.ok = true) : (e.heardB s).ear.ok = true ∧ (e.heardB s).out = e.out ∧ (e.heardB s).pulse = e.pulse := by
  unfold Ed.heardB
  split
  · exact ⟨h, rfl, rfl⟩
  · split
    · rename_i h2; exact ⟨h2, rfl, rfl⟩
    · exact ⟨h, rfl, rfl⟩
end Go.VI.Ns
set_option linter.unusedVariables false
set_option linter.unusedSimpArgs false
namespace Go.VI.Ns
open Go Go.VI

/-- an end that is ok, but for its clock's times -/
structure Ed.Pre (e : Ed) : Prop where
  st : 0 ≤ e.st ∧ e.st ≤ 5
  addr : 0 ≤ e.addr ∧ e.addr ≤ 65535
  paddr : 0 ≤ e.paddr ∧ e.paddr ≤ 65535
  n : 1 ≤ e.n ∧ e.n ≤ 255
  pn : 0 ≤ e.pn ∧ e.pn ≤ 255
  base : 0 ≤ e.base ∧ e.base ≤ 65535
  out : e.out.ok = true
  bh : e.base < e.out.heard
  ear : e.ear.ok = true
  pulse : e.pulse.ok = true
  due : 0 ≤ e.due ∧ e.due ≤ 1000000
  tries : 0 ≤ e.tries ∧ e.tries ≤ 8
  lh : e.lheard = true → e.ltold = true
  lt : e.ltold = true → e.closed = true ∧ e.out.sent = e.out.keep.length ∧ 4 ≤ e.st
  early : e.st < 4 → e.out.sent = 0 ∧ e.out.heard = e.base + 1 ∧ e.plast = -1
  peer : 0 < e.pn ↔ 2 ≤ e.st
  last : e.plast ≠ -1 → (e.ear.next ≤ e.plast ∧ e.plast ≤ 1000000) ∧ ∀ x ∈ e.ear.far, x.1 < e.plast
theorem Ed.Is.pre {e : Ed} (h : e.Is) : e.Pre := ⟨h.st, h.addr, h.paddr, h.n, h.pn, h.base, h.out, h.bh, h.ear, h.pulse, h.due, h.tries, h.lh, h.lt, h.early, h.peer, h.last⟩
theorem Ed.Pre.is {e : Ed} (h : e.Pre) (hc : e.opn = false → e.due = 0 ∧ (e.tries = 0 ∨ e.st = 5)) : e.Is := ⟨h.st, h.addr, h.paddr, h.n, h.pn, h.base, h.out, h.bh, h.ear, h.pulse, h.due, h.tries, h.lh, h.lt, h.early, h.peer, hc, h.last⟩
theorem Ed.Pre.time {e : Ed} (h : e.Pre) {d t : Int} (hd : 0 ≤ d ∧ d ≤ 1000000) (ht : 0 ≤ t ∧ t ≤ 8) : ({ e with due := d, tries := t } : Ed).Pre := ⟨h.st, h.addr, h.paddr, h.n, h.pn, h.base, h.out, h.bh, h.ear, h.pulse, hd, ht, h.lh, h.lt, h.early, h.peer, h.last⟩
theorem Ed.opn_time (e : Ed) (d t : Int) : ({ e with due := d, tries := t } : Ed).opn = e.opn := rfl
theorem Ed.Pre.arm {e : Ed} (h : e.Pre) {now : Int} (on : Bool) (hn : 0 ≤ now ∧ now ≤ 900000) : (e.arm now on).Is := by
  have hc := Ck.ok_bd h.pulse
  have hd := h.due
  have ht := h.tries
  unfold Ed.arm
  cases ho : e.opn with
  | true =>
    simp only [if_true]
    split
    · exact (h.time (d := now + e.pulse.wait) (t := 0) (by omega) (by omega)).is (by rw [Ed.opn_time, ho]; intro z; cases z)
    · split
      · exact (h.time (d := now + e.pulse.wait) (t := e.tries) (by omega) (by omega)).is (by rw [Ed.opn_time e _ e.tries, ho]; intro z; cases z)
      · exact h.is (by rw [ho]; intro z; cases z)
  | false =>
    simp only [Bool.false_eq_true, if_false]
    split
    · exact (h.time (d := 0) (t := 0) (by omega) (by omega)).is (fun _ => ⟨rfl, .inl rfl⟩)
    · rename_i hq
      have h5 : e.st = 5 := by
        by_cases h5 : e.st = 5
        · exact h5
        · exact absurd (by simp [h5]) hq
      exact (h.time (d := 0) (t := e.tries) (by omega) (by omega)).is (fun _ => ⟨rfl, .inr h5⟩)

/-! ### connecting, listening, reading, closing, ticking -/
theorem Ed.Is.no_last {e : Ed} (h : e.Is) (hs : e.st < 4) : e.ltold = false ∧ e.lheard = false := by
  have h1 : e.ltold = false := by
    cases hl : e.ltold with
    | false => rfl
    | true => have := (h.lt hl).2.2; omega
  refine ⟨h1, ?_⟩
  cases hl : e.lheard with
  | false => rfl
  | true => have := h.lh hl; rw [h1] at this; cases this
theorem Ed.Is.connect {e : Ed} (h : e.Is) (h0 : e.st = 0) {addr port now : Int} (ha : 0 ≤ addr ∧ addr ≤ 65535) (hp : 1 ≤ port ∧ port ≤ 255) (hn : 0 ≤ now ∧ now ≤ 900000) : (e.connect addr port now).Is := by
  obtain ⟨n1, n2⟩ := h.no_last (by omega)
  refine Ed.Pre.arm (e := { e with st := 2, paddr := addr, pn := port }) ⟨by simp only; omega, h.addr, ha, h.n, by simp only; omega, h.base, h.out, h.bh, h.ear, h.pulse, h.due, h.tries, h.lh, fun z => ?_, fun _ => h.early (by omega), by simp only; omega, h.last⟩ true hn
  simp only [n1] at z; cases z
theorem Ed.Is.listen {e : Ed} (h : e.Is) : e.listen.Is := by
  unfold Ed.listen
  split
  · rename_i h0
    obtain ⟨n1, n2⟩ := h.no_last (by omega)
    have ho : e.opn = false := by unfold Ed.opn; simp [h0]
    have hc := h.calm ho
    have hp := h.peer
    refine ⟨by simp only; omega, h.addr, h.paddr, h.n, h.pn, h.base, h.out, h.bh, h.ear, h.pulse, h.due, h.tries, h.lh, fun z => ?_, fun _ => h.early (by omega), by simp only; omega, fun _ => ⟨hc.1, ?_⟩, h.last⟩
    · simp only [n1] at z; cases z
    · rcases hc.2 with a | a
      · exact .inl a
      · omega
  · exact h
theorem Ea.rest_ok' {e : Ea} (h : e.ok = true) (many : Int) : (e.rest many).ok = true := by
  have mono : ∀ (l : List (Int × Int)) (t t' last : Int), t ≤ t' → farOk t last l = true → farOk t' last l = true := by
    intro l
    induction l with
    | nil => intro t t' last _ _; rfl
    | cons r l ih =>
      intro t t' last ht hh
      simp only [farOk, Bool.and_eq_true, decide_eq_true_eq] at hh ⊢
      exact ⟨⟨hh.1.1, by omega⟩, ih t t' _ ht hh.2⟩
  simp only [Ea.ok, Ea.rest, Ea.free, Bool.and_eq_true, inn_iff, decide_eq_true_eq, List.length_drop] at h ⊢
  obtain ⟨⟨⟨h1, h2⟩, h3⟩, h4⟩ := h
  exact ⟨⟨⟨h1, h2⟩, by omega⟩, mono _ _ _ _ (by omega) h4⟩
theorem Ed.Is.read {e : Ed} (h : e.Is) (many : Int) : (e.read many).Is :=
  ⟨h.st, h.addr, h.paddr, h.n, h.pn, h.base, h.out, h.bh, Ea.rest_ok' h.ear many, h.pulse, h.due, h.tries, h.lh, h.lt, h.early, h.peer, h.calm, h.last⟩
theorem Ed.Is.close {e : Ed} (h : e.Is) {now : Int} (hn : 0 ≤ now ∧ now ≤ 900000) : (e.close now).Is := by
  unfold Ed.close
  split
  · rename_i hl
    unfold Ed.lasts at hl
    simp only [Bool.and_eq_true, decide_eq_true_eq, Bool.not_eq_true'] at hl
    obtain ⟨⟨l1, l2⟩, l3⟩ := hl
    exact Ed.Pre.arm (e := { e with closed := true, ltold := true }) ⟨h.st, h.addr, h.paddr, h.n, h.pn, h.base, h.out, h.bh, h.ear, h.pulse, h.due, h.tries, fun _ => rfl, fun _ => ⟨rfl, l3, by simp only; omega⟩, h.early, h.peer, h.last⟩ false hn
  · exact Ed.Pre.arm (e := { e with closed := true }) ⟨h.st, h.addr, h.paddr, h.n, h.pn, h.base, h.out, h.bh, h.ear, h.pulse, h.due, h.tries, h.lh, fun z => ⟨rfl, (h.lt z).2⟩, h.early, h.peer, h.last⟩ false hn
theorem Ed.Is.open_of_due {e : Ed} (h : e.Is) (hd : e.due ≠ 0) : e.opn = true := by
  cases ho : e.opn with
  | true => rfl
  | false => exact absurd (h.calm ho).1 hd
theorem Ed.st_of_opn {e : Ed} (h : e.opn = true) : e.st = 2 ∨ e.st = 3 ∨ e.st = 4 := by
  by_cases a : e.st = 2
  · exact .inl a
  by_cases b : e.st = 3
  · exact .inr (.inl b)
  by_cases c : e.st = 4
  · exact .inr (.inr c)
  · simp [Ed.opn, a, b, c] at h
theorem Ck.late_ok {c : Ck} (h : c.ok = true) : c.late.ok = true := by
  have hb := Ck.ok_bd h
  simp only [Ck.ok, Ck.late, Bool.and_eq_true, inn_iff]
  omega
theorem Ed.Is.tick {e : Ed} (h : e.Is) {now : Int} (hn : 0 ≤ now ∧ now ≤ 900000) : (e.tick now).Is := by
  unfold Ed.tick
  split
  · exact h
  · rename_i hd
    have hop := h.open_of_due (by omega)
    have hst := Ed.st_of_opn hop
    have hp := h.peer
    have hc := Ck.ok_bd (Ck.late_ok h.pulse)
    have ht := h.tries
    split
    · refine ⟨by simp only; omega, h.addr, h.paddr, h.n, h.pn, h.base, h.out, h.bh, h.ear, h.pulse, by simp only; omega, h.tries, h.lh, fun z => ?_, fun z => ?_, by simp only; omega, fun _ => ⟨rfl, .inr rfl⟩, h.last⟩
      · have := h.lt z; exact ⟨this.1, this.2.1, by simp only; omega⟩
      · simp only at z; omega
    · exact ⟨h.st, h.addr, h.paddr, h.n, h.pn, h.base, h.out, h.bh, h.ear, Ck.late_ok h.pulse, by simp only [Ed.goes]; omega, by simp only [Ed.goes]; omega, h.lh, h.lt, h.early, h.peer, (by
        have : (e.goes now).opn = e.opn := rfl
        rw [this, hop]; intro z; cases z), h.last⟩

/-! ### writing -/
theorem Ed.Pre.tell {e : Ed} (h : e.Pre) (h4 : e.st = 4) : e.tellB.1.Pre := by
  obtain ⟨n, h1, h2, h3⟩ := Ed.bytes_form 40 e []
  have h1 : e.tellB.1 = { e with out := { e.out with sent := n } } := h1
  rw [h1]
  have hk := Mo.ok_sent (h3 h.out)
  refine ⟨h.st, h.addr, h.paddr, h.n, h.pn, h.base, h3 h.out, h.bh, h.ear, h.pulse, h.due, h.tries, h.lh, fun z => ?_, fun z => ?_, h.peer, h.last⟩
  · obtain ⟨a, b, c⟩ := h.lt z
    refine ⟨a, ?_, c⟩
    have := hk.2.1
    simp only at this ⊢
    omega
  · simp only at z; omega
theorem Ed.Is.put {e : Ed} (h : e.Is) (data : List Int) : (e.put data).Pre ∧ (e.put data).st = e.st ∧ (e.st ≠ 4 → (e.put data).opn = e.opn) ∧ (e.put data).due = e.due ∧ (e.put data).tries = e.tries := by
  unfold Ed.put
  cases hq : (!e.closed && decide (e.st ≠ 5)) with
  | true =>
    simp only [if_true]
    have hcl : e.closed = false := by simp at hq; exact hq.1
    refine ⟨⟨h.st, h.addr, h.paddr, h.n, h.pn, h.base, Mo.write_ok h.out data, h.bh, h.ear, h.pulse, h.due, h.tries, h.lh, fun z => ?_, h.early, h.peer, h.last⟩, trivial, ?_, trivial, trivial⟩
    · have := (h.lt z).1; rw [hcl] at this; cases this
    · intro h4; unfold Ed.opn; simp [h4]
  | false =>
    simp only [Bool.false_eq_true, if_false]
    exact ⟨h.pre, trivial, fun _ => trivial, trivial, trivial⟩
theorem Ed.Is.write {e : Ed} (h : e.Is) (data : List Int) {now : Int} (hn : 0 ≤ now ∧ now ≤ 900000) : (e.write data now).Is := by
  obtain ⟨p1, p2, p3, p4, p5⟩ := h.put data
  unfold Ed.write
  split
  · rename_i h4
    exact Ed.Pre.arm (p1.tell (by rw [p2]; exact h4)) false hn
  · rename_i h4
    exact p1.is (by rw [p3 h4, p4, p5, p2]; exact h.calm)
end Go.VI.Ns
set_option linter.unusedVariables false
set_option linter.unusedSimpArgs false
namespace Go.VI.Ns
open Go Go.VI

theorem insF_mem {x : Int × Int} : ∀ {l : List (Int × Int)} {y : Int × Int}, y ∈ insF x l → y = x ∨ y ∈ l
  | [], y, h => by simp [insF] at h; exact .inl h
  | z :: l, y, h => by
    unfold insF at h
    split at h
    · rcases List.mem_cons.1 h with h | h
      · exact .inl h
      · exact .inr h
    · split at h
      · exact .inr h
      · rcases List.mem_cons.1 h with h | h
        · exact .inr (by rw [h]; exact List.mem_cons_self)
        · rcases insF_mem h with h | h
          · exact .inl h
          · exact .inr (List.mem_cons_of_mem _ h)
theorem fillF_below {next lim p : Int} : ∀ {d : List Int} {at_ : Int} {far : List (Int × Int)}, at_ + d.length ≤ p → (∀ x ∈ far, x.1 < p) → ∀ x ∈ fillF next lim at_ d far, x.1 < p
  | [], at_, far, _, h => h
  | b :: d, at_, far, hp, h => by
    unfold fillF
    simp only [List.length_cons] at hp
    refine fillF_below (by omega) ?_
    split
    · intro x hx
      rcases insF_mem hx with rfl | hx
      · simp only; omega
      · exact h x hx
    · exact h
theorem drain_below {p : Int} : ∀ {l : List (Int × Int)} {n : Int} {g : List Int}, n ≤ p → (∀ x ∈ l, x.1 < p) → (Ns.drain n g l).1 ≤ p ∧ ∀ x ∈ (Ns.drain n g l).2.2, x.1 < p
  | [], n, g, hn, h => ⟨hn, h⟩
  | x :: l, n, g, hn, h => by
    unfold Ns.drain
    split
    · rename_i hx
      have := h x (by simp)
      exact drain_below (by omega) (fun y hy => h y (by simp [hy]))
    · exact ⟨hn, h⟩
theorem Ed.Pre.heardB {e : Ed} (h : e.Pre) (h4 : 4 ≤ e.st) (s : Sg) : (e.heardB s).Pre := by
  unfold Ed.heardB
  split
  · exact h
  · rename_i hc
    split
    · rename_i hok
      have hb := Ea.ok
      refine ⟨h.st, h.addr, h.paddr, h.n, h.pn, h.base, h.out, h.bh, hok, h.pulse, h.due, h.tries, h.lh, h.lt, fun z => ?_, h.peer, ?_⟩
      · simp only at z; omega
      · simp only
        split
        · rename_i hm
          intro _
          exact ⟨⟨hm.2.2.1, hm.2.2.2.2.1⟩, hm.2.2.2.2.2⟩
        · intro hp
          obtain ⟨⟨g1, g2⟩, g3⟩ := h.last hp
          have hn : 0 ≤ e.ear.next := by
            have := h.ear
            simp only [Ea.ok, Bool.and_eq_true, inn_iff] at this
            exact this.1.1.1.1
          have hz : e.byteAt s + s.data.length ≤ e.plast := by omega
          have hf : ∀ x ∈ fillF e.ear.next (e.ear.next + e.ear.free) (e.byteAt s) s.data e.ear.far, x.1 < e.plast := fillF_below hz g3
          obtain ⟨d1, d2⟩ := drain_below (g := e.ear.got) g1 hf
          have hE : e.heardE s = ⟨(e.ear.hearD (e.byteAt s) s.data).1, e.ear.room, (e.ear.hearD (e.byteAt s) s.data).2.1, (e.ear.hearD (e.byteAt s) s.data).2.2⟩ := by
            unfold Ed.heardE Ea.hear at hok ⊢
            split
            · rename_i hq; rw [if_pos hq] at hok; simp [Ea.zero, Ea.ok, inn] at hok
            · rfl
          rw [hE]
          exact ⟨⟨d1, g2⟩, d2⟩
    · exact h
theorem Ed.Pre.took {e : Ed} (h : e.Pre) (h4 : 4 ≤ e.st) (s : Sg) : (e.took s).Pre := by
  have hlh : (e.lheard || e.mark s) = true → e.ltold = true := by
    intro z
    cases hl : e.lheard with
    | true => exact h.lh hl
    | false =>
      rw [hl] at z
      unfold Ed.mark at z
      simp at z
      exact z.1
  have hko := Mo.ok_sent h.out
  have hbs := h.base
  have hbh := h.bh
  unfold Ed.took
  cases ht : e.takes s with
  | false =>
    simp only [Bool.false_eq_true, if_false]
    exact ⟨h.st, h.addr, h.paddr, h.n, h.pn, h.base, h.out, h.bh, h.ear, h.pulse, h.due, h.tries, hlh, h.lt, fun z => (by simp only at z; omega), h.peer, h.last⟩
  | true =>
    simp only [if_true]
    unfold Ed.takes at ht
    simp only [Bool.and_eq_true, decide_eq_true_eq] at ht
    obtain ⟨t1, t2⟩ := ht
    refine ⟨h.st, h.addr, h.paddr, h.n, h.pn, h.base, t1, by simp only; omega, h.ear, h.pulse, h.due, h.tries, hlh, fun z => ?_, fun z => (by simp only at z; omega), h.peer, h.last⟩
    obtain ⟨l1, l2, l3⟩ := h.lt z
    refine ⟨l1, ?_, l3⟩
    simp only
    unfold Ed.tookM Mo.hear at t2 ⊢
    split
    · exact l2
    · rename_i hq
      split
      · rfl
      · simp only [List.length_drop]
        omega
theorem Ed.Pre.flush {e : Ed} (h : e.Pre) (h4 : 4 ≤ e.st) : e.flush.Pre := by
  obtain ⟨n, t, h1, h2, h3, h5⟩ := e.flush_form
  rw [h1]
  have hk := Mo.ok_sent (h3 h.out)
  have hk2 := hk.2.1
  simp only at hk2
  refine ⟨h.st, h.addr, h.paddr, h.n, h.pn, h.base, h3 h.out, h.bh, h.ear, h.pulse, h.due, h.tries, fun z => ?_, fun z => ?_, fun z => (by simp only at z; omega), h.peer, h.last⟩
  · simp only at z ⊢
    by_cases ht : t = e.ltold
    · rw [ht]; exact h.lh z
    · exact (h5 ht).1
  · simp only at z ⊢
    by_cases ht : t = e.ltold
    · obtain ⟨a, b, c⟩ := h.lt (by rw [← ht]; exact z)
      exact ⟨a, by omega, c⟩
    · obtain ⟨a, b, c, d⟩ := h5 ht
      exact ⟨c, d, h4⟩
theorem Ea.begin_ok {e : Ea} (h : e.ok = true) {p : Int} (hp : 0 ≤ p ∧ p ≤ 1000000) : ({ e with next := p, far := [] } : Ea).ok = true := by
  simp only [Ea.ok, Ea.free, Bool.and_eq_true, inn_iff, decide_eq_true_eq] at h ⊢
  obtain ⟨⟨⟨h1, h2⟩, h3⟩, h4⟩ := h
  exact ⟨⟨⟨hp, h2⟩, by first | exact h3 | exact decide_eq_true h3⟩, rfl⟩
theorem Mo.room_ok {m : Mo} (h : m.ok = true) {r : Int} (hr : 0 ≤ r ∧ r ≤ 255) : ({ m with room := r } : Mo).ok = true := by
  simp only [Mo.ok, Bool.and_eq_true, inn_iff, decide_eq_true_eq] at h ⊢
  obtain ⟨⟨⟨⟨⟨h1, h2⟩, h3⟩, h4⟩, h5⟩, h6⟩ := h
  exact ⟨⟨⟨⟨⟨h1, by first | exact h2 | exact decide_eq_true h2⟩, h3⟩, hr⟩, by first | exact h5 | exact decide_eq_true h5⟩, h6⟩
theorem Sg.bd {s : Sg} (h : s.ok = true) : (1 ≤ s.fr ∧ s.fr ≤ 255) ∧ (1 ≤ s.to ∧ s.to ≤ 255) ∧ (0 ≤ s.seq ∧ s.seq ≤ 65535) ∧ (0 ≤ s.ack ∧ s.ack ≤ 65535) ∧ (0 ≤ s.room ∧ s.room ≤ 255) ∧ s.ranges.length ≤ 2 ∧ s.data.length ≤ 12 := by
  simp only [Sg.ok, Bool.and_eq_true, inn_iff, decide_eq_true_eq] at h
  obtain ⟨⟨⟨⟨⟨⟨⟨⟨⟨h1, h2⟩, h3⟩, h4⟩, h5⟩, h6⟩, h7⟩, h8⟩, h9⟩, h10⟩ := h
  exact ⟨h1, h2, h3, h4, h5, h6, h7⟩
theorem Ed.Pre.got {e : Ed} (h : e.Pre) (h4 : 4 ≤ e.st) (s : Sg) : (e.got s).Pre ∧ (e.got s).st = e.st := by
  unfold Ed.got
  split
  · exact ⟨h.took h4 s, rfl⟩
  · exact ⟨h, rfl⟩
theorem Ed.heardB_st (e : Ed) (s : Sg) : (e.heardB s).st = e.st ∧ (e.heardB s).n = e.n ∧ (e.heardB s).pn = e.pn := by
  unfold Ed.heardB
  split
  · exact ⟨rfl, rfl, rfl⟩
  · split <;> exact ⟨rfl, rfl, rfl⟩
theorem Ed.Is.asked {e : Ed} (h : e.Is) (h12 : e.st = 1 ∨ e.st = 2) {fr : Int} {s : Sg} (hs : s.ok = true) (hfr : 0 ≤ fr ∧ fr ≤ 65535) : (e.asked fr s).Pre := by
  obtain ⟨d1, d2, d3, d4, d5, d6, d7⟩ := Sg.bd hs
  obtain ⟨n1, n2⟩ := h.no_last (by omega)
  have he := h.early (by omega)
  refine ⟨by simp only [Ed.asked]; omega, h.addr, hfr, h.n, by simp only [Ed.asked]; omega, h.base, h.out, h.bh, Ea.begin_ok h.ear (by omega), h.pulse, h.due, h.tries, h.lh, fun z => ?_, fun _ => he, by simp only [Ed.asked]; omega, fun z => absurd he.2.2 z⟩
  simp only [Ed.asked, n1] at z; cases z
theorem Ed.Is.met {e : Ed} (h : e.Is) (h2 : e.st = 2) {s : Sg} (hs : s.ok = true) : (e.met s).Pre := by
  obtain ⟨d1, d2, d3, d4, d5, d6, d7⟩ := Sg.bd hs
  obtain ⟨n1, n2⟩ := h.no_last (by omega)
  have he := h.early (by omega)
  have hp := h.peer
  refine ⟨by simp only [Ed.met]; omega, h.addr, h.paddr, h.n, h.pn, h.base, Mo.room_ok h.out d5, h.bh, Ea.begin_ok h.ear (by omega), h.pulse, h.due, h.tries, h.lh, fun z => ?_, fun z => (by simp only [Ed.met] at z; omega), by simp only [Ed.met]; omega, fun z => absurd he.2.2 z⟩
  simp only [Ed.met, n1] at z; cases z
theorem Ed.Is.known {e : Ed} (h : e.Is) (h34 : e.st = 3 ∨ e.st = 4) {s : Sg} (hs : s.ok = true) : (e.known s).Pre ∧ (e.known s).st = 4 := by
  obtain ⟨d1, d2, d3, d4, d5, d6, d7⟩ := Sg.bd hs
  have hp := h.peer
  unfold Ed.known
  split
  · rename_i h3
    obtain ⟨n1, n2⟩ := h.no_last (by omega)
    refine ⟨⟨by simp only; omega, h.addr, h.paddr, h.n, h.pn, h.base, Mo.room_ok h.out d5, h.bh, h.ear, h.pulse, h.due, h.tries, h.lh, fun z => ?_, fun z => (by simp only at z; omega), by simp only; omega, h.last⟩, rfl⟩
    simp only [n1] at z; cases z
  · exact ⟨h.pre, by omega⟩
theorem deaf_not {e : Ed} {fr : Int} {s : Sg} (h : e.deaf fr s = false) : s.to = e.n ∧ e.st ≠ 0 ∧ e.st ≠ 5 := by
  unfold Ed.deaf at h
  simp only [Bool.or_eq_false_iff, Bool.and_eq_false_iff, decide_eq_false_iff_not, ne_eq, Decidable.not_not] at h
  obtain ⟨⟨⟨h1, h2⟩, h3⟩, h4⟩ := h
  exact ⟨h1, h2, h3⟩
theorem Ed.Is.hear {e : Ed} (h : e.Is) {fr now : Int} {s : Sg} (hs : s.ok = true) (hfr : 0 ≤ fr ∧ fr ≤ 65535) (hn : 0 ≤ now ∧ now ≤ 900000) : (e.hear fr s now).Is := by
  unfold Ed.hear
  cases hd : e.deaf fr s with
  | true => simpa using h
  | false =>
    simp only [Bool.false_eq_true, if_false]
    obtain ⟨x1, x2, x3⟩ := deaf_not hd
    have hst := h.st
    cases hr : s.reset with
    | true =>
      simp only [if_true]
      split
      · rename_i hf
        have h2 : 2 ≤ e.st := by
          unfold Ed.fails at hf
          simp only [Bool.or_eq_true, Bool.and_eq_true, decide_eq_true_eq] at hf
          omega
        have hp := h.peer
        refine ⟨by simp only; omega, h.addr, h.paddr, h.n, h.pn, h.base, h.out, h.bh, h.ear, h.pulse, by simp only; omega, h.tries, h.lh, fun z => ?_, fun z => (by simp only at z; omega), by simp only; omega, fun _ => ⟨rfl, .inr rfl⟩, h.last⟩
        have := h.lt z; exact ⟨this.1, this.2.1, by simp only; omega⟩
      · exact h
    | false =>
      simp only [Bool.false_eq_true, if_false]
      by_cases h1 : e.st = 1 ∨ (e.st = 2 ∧ s.heard = false)
      · rw [if_pos h1]
        split
        · exact h
        · exact (h.asked (by omega) hs hfr).arm true hn
      · rw [if_neg h1]
        by_cases h2 : e.st = 2
        · rw [if_pos h2]
          split
          · exact h
          · exact ((h.met h2 hs).flush (by simp only [Ed.met]; omega)).arm true hn
        · rw [if_neg h2]
          split
          · exact h
          · have h34 : e.st = 3 ∨ e.st = 4 := by
              have : e.st ≠ 1 := fun z => h1 (.inl z)
              omega
            obtain ⟨k1, k2⟩ := h.known h34 hs
            obtain ⟨g1, g2⟩ := k1.got (by omega) s
            obtain ⟨b1, b2, b3⟩ := ((e.known s).got s).heardB_st s
            exact ((g1.heardB (by omega) s).flush (by omega)).arm _ hn

/-! ### what is sent -/
theorem Ed.seg_ok {e : Ed} (he : e.ear.ok = true) (hn : 1 ≤ e.n ∧ e.n ≤ 255) (hp : 1 ≤ e.pn ∧ e.pn ≤ 255) (at_ : Int) (a b : Bool) (d : List Int) (hd : d.length ≤ 12) : ({ e.seg at_ with first := a, last := b, data := d } : Sg).ok = true := by
  have s1 := seqOf_in at_
  have s2 := seqOf_in e.wait
  have hf : 0 ≤ e.ear.free ∧ e.ear.free ≤ 255 := by
    simp only [Ea.ok, Bool.and_eq_true, inn_iff, decide_eq_true_eq] at he
    unfold Ea.free; omega
  have hr := rngS_len e.ear.far [] (by simp)
  unfold Ed.seg
  split
  · simp only [Sg.ok, Bool.and_eq_true, inn_iff, decide_eq_true_eq]
    simp
    omega
  · have hall : ((e.rng.map fun r => (seqOf r.1, seqOf r.2)).all fun r => inn r.1 0 65535 && inn r.2 0 65535) = true := by
      rw [List.all_eq_true]
      intro r hr
      obtain ⟨q, _, rfl⟩ := List.mem_map.1 hr
      have := seqOf_in q.1
      have := seqOf_in q.2
      simp only [Bool.and_eq_true, inn_iff]
      omega
    simp only [Sg.ok, Bool.and_eq_true, inn_iff, decide_eq_true_eq, hall]
    have : (e.rng.map fun r => (seqOf r.1, seqOf r.2)).length ≤ 2 := by simpa [Ed.rng] using hr
    simp
    simp at this
    omega
theorem Ed.seg_plain (e : Ed) (at_ : Int) : e.seg at_ = { e.seg at_ with first := false, last := false, data := [] } := by
  unfold Ed.seg; split <;> rfl
theorem Mo.nxtB_len (m : Mo) : (m.nxtB 12).length ≤ 12 := by
  unfold Mo.nxtB
  split
  · simp
  · simp only [List.length_drop, List.length_take]
    have : m.upto 12 ≤ m.sent + 12 := by unfold Mo.upto; omega
    omega
theorem Ed.bytes_ok : ∀ (k : Nat) (e : Ed) (l : List Sg), e.ear.ok = true → 1 ≤ e.n ∧ e.n ≤ 255 → 1 ≤ e.pn ∧ e.pn ≤ 255 → (∀ s ∈ l, s.ok = true) → ∀ s ∈ (Ed.bytes k e l).2, s.ok = true
  | 0, e, l, _, _, _, h => h
  | k + 1, e, l, he, hn, hp, h => by
    unfold Ed.bytes
    split
    · refine Ed.bytes_ok k _ _ he hn hp ?_
      intro s hs
      rcases List.mem_append.1 hs with hs | hs
      · exact h s hs
      · simp only [List.mem_singleton] at hs
        subst hs
        have := Ed.seg_ok (e := { e with out := e.out.nxt 12 }) he hn hp (e.out.heard + e.out.sent) false false (e.out.nxtB 12) e.out.nxtB_len
        rw [Ed.seg_plain]
        exact this
    · exact h
theorem Ed.bytes_cnt : ∀ (k : Nat) (e : Ed) (l : List Sg), (Ed.bytes k e l).2.length ≤ l.length + k
  | 0, e, l => by simp [Ed.bytes]
  | k + 1, e, l => by
    unfold Ed.bytes
    split
    · refine Nat.le_trans (Ed.bytes_cnt k _ _) ?_
      simp only [List.length_append, List.length_singleton]
      omega
    · simp only []
      omega
end Go.VI.Ns
set_option linter.unusedVariables false
set_option linter.unusedSimpArgs false
namespace Go.VI.Ns
open Go Go.VI

def okL (l : List Sg) : Prop := ∀ s ∈ l, s.ok = true
theorem okL_nil : okL [] := by intro s h; cases h
theorem okL_one {s : Sg} (h : s.ok = true) : okL [s] := by intro x hx; simp only [List.mem_singleton] at hx; rw [hx]; exact h
theorem okL_app {a b : List Sg} (ha : okL a) (hb : okL b) : okL (a ++ b) := by
  intro s h
  rcases List.mem_append.1 h with h | h
  · exact ha s h
  · exact hb s h
theorem Ed.fst_ok {e : Ed} (he : e.ear.ok = true) (hn : 1 ≤ e.n ∧ e.n ≤ 255) (hp : 1 ≤ e.pn ∧ e.pn ≤ 255) : e.fst.ok = true := by
  have := Ed.seg_ok he hn hp e.base true false [] (by simp)
  unfold Ed.fst
  rw [Ed.seg_plain]
  exact this
theorem Ed.lst_ok {e : Ed} (he : e.ear.ok = true) (hn : 1 ≤ e.n ∧ e.n ≤ 255) (hp : 1 ≤ e.pn ∧ e.pn ≤ 255) : e.lst.ok = true := by
  have := Ed.seg_ok he hn hp (e.out.heard + e.out.keep.length) false true [] (by simp)
  unfold Ed.lst
  rw [Ed.seg_plain]
  exact this
theorem Ed.bare_ok {e : Ed} (he : e.ear.ok = true) (hn : 1 ≤ e.n ∧ e.n ≤ 255) (hp : 1 ≤ e.pn ∧ e.pn ≤ 255) (p : Int) : (e.seg p).ok = true := by
  have := Ed.seg_ok he hn hp p false false [] (by simp)
  rw [Ed.seg_plain]
  exact this
theorem Ed.data_ok {e : Ed} (he : e.ear.ok = true) (hn : 1 ≤ e.n ∧ e.n ≤ 255) (hp : 1 ≤ e.pn ∧ e.pn ≤ 255) (p : Int) {d : List Int} (hd : d.length ≤ 12) : ({ e.seg p with data := d } : Sg).ok = true := by
  have := Ed.seg_ok he hn hp p false false d hd
  rw [Ed.seg_plain]
  exact this
theorem Ed.Is.pn1 {e : Ed} (h : e.Is) (h2 : 2 ≤ e.st) : 1 ≤ e.pn ∧ e.pn ≤ 255 := ⟨h.peer.2 h2, h.pn.2⟩
theorem Ed.Pre.pn1 {e : Ed} (h : e.Pre) (h2 : 2 ≤ e.st) : 1 ≤ e.pn ∧ e.pn ≤ 255 := ⟨h.peer.2 h2, h.pn.2⟩
theorem Ed.connect_fst {e : Ed} (h : e.Is) {addr port now : Int} (hp : 1 ≤ port ∧ port ≤ 255) : (e.connect addr port now).fst.ok = true := by
  obtain ⟨d, t, ha⟩ := ({ e with st := 2, paddr := addr, pn := port } : Ed).arm_form now true
  unfold Ed.connect
  rw [ha]
  exact Ed.fst_ok h.ear h.n hp
theorem Ed.writeL_ok {e : Ed} (h : e.Is) (data : List Int) : okL (e.writeL data) ∧ (e.writeL data).length ≤ 40 := by
  unfold Ed.writeL
  split
  · rename_i h4
    obtain ⟨p1, p2, _⟩ := h.put data
    refine ⟨Ed.bytes_ok 40 _ [] p1.ear p1.n (p1.pn1 (by omega)) okL_nil, ?_⟩
    have := Ed.bytes_cnt 40 (e.put data) []
    simpa [Ed.tellB] using this
  · exact ⟨okL_nil, by simp⟩
theorem Ed.readL_ok {e : Ed} (h : e.Is) (many : Int) : okL (e.readL many) ∧ (e.readL many).length ≤ 40 := by
  unfold Ed.readL
  split
  · rename_i h4
    have hr := h.read many
    exact ⟨okL_one (Ed.bare_ok hr.ear hr.n (h.pn1 (by omega)) _), by simp⟩
  · exact ⟨okL_nil, by simp⟩
theorem Mo.agn_len (m : Mo) : (m.agn 12).length ≤ 12 := by
  unfold Mo.agn
  rw [List.length_take]
  omega
theorem Ed.tickL_ok {e : Ed} (h : e.Is) {now : Int} (hn : 0 ≤ now ∧ now ≤ 900000) : okL (e.tickL now) ∧ (e.tickL now).length ≤ 40 := by
  unfold Ed.tickL
  split
  · exact ⟨okL_nil, by simp⟩
  · rename_i hd
    have hst := Ed.st_of_opn (h.open_of_due (by omega))
    have hp := h.pn1 (by omega)
    have e1 : (e.goes now).ear.ok = true := h.ear
    have e2 : 1 ≤ (e.goes now).n ∧ (e.goes now).n ≤ 255 := h.n
    have e3 : 1 ≤ (e.goes now).pn ∧ (e.goes now).pn ≤ 255 := hp
    split
    · exact ⟨okL_nil, by simp⟩
    · split
      · exact ⟨okL_one (Ed.fst_ok e1 e2 e3), by simp⟩
      · split
        · exact ⟨okL_one (Ed.data_ok e1 e2 e3 _ e.out.agn_len), by simp⟩
        · split
          · exact ⟨okL_one (Ed.lst_ok e1 e2 e3), by simp⟩
          · exact ⟨okL_one (Ed.bare_ok e1 e2 e3 _), by simp⟩
theorem Ed.closeL_ok {e : Ed} (h : e.Is) : okL e.closeL ∧ e.closeL.length ≤ 40 := by
  unfold Ed.closeL
  split
  · rename_i hl
    unfold Ed.lasts at hl
    simp only [Bool.and_eq_true, decide_eq_true_eq] at hl
    exact ⟨okL_one (Ed.lst_ok h.ear h.n (h.pn1 (by omega))), by simp⟩
  · exact ⟨okL_nil, by simp⟩
theorem Ed.flushL_ok {e : Ed} (h : e.Pre) (h2 : 2 ≤ e.st) : okL e.flushL ∧ e.flushL.length ≤ 41 := by
  obtain ⟨n, f1, f2, f3⟩ := Ed.bytes_form 40 e []
  have f1 : e.tellB.1 = { e with out := { e.out with sent := n } } := f1
  have hb : okL e.tellB.2 := Ed.bytes_ok 40 e [] h.ear h.n (h.pn1 h2) okL_nil
  have hc : e.tellB.2.length ≤ 40 := by
    have := Ed.bytes_cnt 40 e []
    simpa [Ed.tellB] using this
  unfold Ed.flushL
  split
  · refine ⟨okL_app hb (okL_one ?_), by simp only [List.length_append, List.length_singleton]; omega⟩
    rw [f1]
    exact Ed.lst_ok h.ear h.n (h.pn1 h2)
  · exact ⟨hb, by omega⟩
theorem Ed.flush_bare {e : Ed} (h : e.Pre) (h2 : 2 ≤ e.st) : e.flush.bare.ok = true := by
  obtain ⟨n, t, h1, h2', h3, h5⟩ := e.flush_form
  rw [h1]
  exact Ed.bare_ok h.ear h.n (h.pn1 h2) _
theorem Ed.hearL_ok {e : Ed} (h : e.Is) {fr : Int} {s : Sg} (hs : s.ok = true) (hfr : 0 ≤ fr ∧ fr ≤ 65535) : okL (e.hearL fr s) ∧ (e.hearL fr s).length ≤ 41 := by
  have none_ok : okL ([] : List Sg) ∧ ([] : List Sg).length ≤ 41 := ⟨okL_nil, by simp⟩
  unfold Ed.hearL
  cases hd : e.deaf fr s with
  | true => simpa using none_ok
  | false =>
    simp only [Bool.false_eq_true, if_false]
    obtain ⟨x1, x2, x3⟩ := deaf_not hd
    have hst := h.st
    cases hr : s.reset with
    | true => simpa using none_ok
    | false =>
      simp only [Bool.false_eq_true, if_false]
      by_cases h1 : e.st = 1 ∨ (e.st = 2 ∧ s.heard = false)
      · rw [if_pos h1]
        split
        · exact none_ok
        · have ha := h.asked (by omega) hs hfr
          exact ⟨okL_one (Ed.fst_ok ha.ear ha.n (ha.pn1 (by simp only [Ed.asked]; omega))), by simp⟩
      · rw [if_neg h1]
        by_cases h2 : e.st = 2
        · rw [if_pos h2]
          have hm := h.met h2 hs
          have hm4 : 2 ≤ (e.met s).st := by simp only [Ed.met]; omega
          split
          · exact none_ok
          · split
            · exact ⟨okL_one (Ed.flush_bare hm hm4), by simp⟩
            · exact Ed.flushL_ok hm hm4
        · rw [if_neg h2]
          have h34 : e.st = 3 ∨ e.st = 4 := by
            have : e.st ≠ 1 := fun z => h1 (.inl z)
            omega
          split
          · split
            · exact ⟨okL_one (Ed.fst_ok h.ear h.n (h.pn1 (by omega))), by simp⟩
            · exact none_ok
          · obtain ⟨k1, k2⟩ := h.known h34 hs
            obtain ⟨g1, g2⟩ := k1.got (by omega) s
            obtain ⟨b1, b2, b3⟩ := ((e.known s).got s).heardB_st s
            have hb := g1.heardB (by omega) s
            unfold Ed.goOnL
            split
            · exact ⟨okL_one (Ed.flush_bare hb (by omega)), by simp⟩
            · exact Ed.flushL_ok hb (by omega)
end Go.VI.Ns
