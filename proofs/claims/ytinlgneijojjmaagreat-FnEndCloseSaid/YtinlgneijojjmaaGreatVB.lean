/- The engine's soundness, part M: stores, slices made and copied to. -/
import Derived.Test.YtinlgneijojjmaaGreatVA
set_option linter.unusedVariables false
set_option linter.unusedSimpArgs false
set_option linter.unusedSectionVars false
namespace Go.VI
open Go

theorem seg_set {α : Type} (C ys : List α) (a b k n : Nat) (h : k + ys.length ≤ n) (hn : a + b + n ≤ C.length) :
    (C.take (a + b + k) ++ ys ++ C.drop (a + b + k + ys.length)).drop a =
      (C.drop a).take b ++ ((((C.drop a).drop b).take n).take k ++ ys ++ (((C.drop a).drop b).take n).drop (k + ys.length)) ++ (C.drop a).drop (b + n) := by
  apply List.ext_getElem?
  intro i
  simp only [List.append_assoc, List.getElem?_append, List.length_take, List.getElem?_take, List.getElem?_drop, List.length_drop]
  have m1 : min (a + b + k) C.length = a + b + k := by omega
  have m2 : min b (C.length - a) = b := by omega
  have m3 : min k (min n (C.length - a - b)) = k := by omega
  have m4 : min n (C.length - a - b) = n := by omega
  rw [m1, m2, m3, m4]
  by_cases h1 : i < b
  · have h3 : a + i < a + b + k := by omega
    simp [h1, h3]
  · simp only [h1, if_false]
    by_cases h2 : i - b < k
    · have h3 : a + i < a + b + k := by omega
      have h4 : i - b < n := by omega
      simp only [h3, h2, h4, if_true]
      congr 1
      omega
    · have h3 : ¬ a + i < a + b + k := by omega
      have h4 : a + i - (a + b + k) = i - b - k := by omega
      simp only [h3, h2, h4, if_false]
      by_cases h5 : i - b - k < ys.length
      · simp [h5]
      · simp only [h5, if_false]
        by_cases h6 : i - b - k - ys.length < n - (k + ys.length)
        · have h7 : k + ys.length + (i - b - k - ys.length) < n := by omega
          simp only [h6, h7, if_true]
          congr 1
          omega
        · simp only [h6, if_false]
          congr 1
          omega

theorem sameBut_setRow {w : World} {b : Nat} {c : Array Value} {el : TypeId} {us : List Value} {o lo n : Nat} (hh : w.heap[b]? = some (.cells c el (0, 0))) (h1 : lo ≤ o) (h2 : o + us.length ≤ lo + n) (h3 : o + us.length ≤ c.size) :
    SameBut lo n w.heap (w.setRow b (c.toList.take o ++ us ++ c.toList.drop (o + us.length)).toArray).heap b := by
  intro c' el' fr' hc
  rw [hh] at hc
  cases hc
  refine ⟨_, setRow_heap w b c _ el (0, 0) hh, by simp; omega, fun k hk => ?_⟩
  simp only [List.getElem?_toArray, List.append_assoc, List.getElem?_append, List.length_take, List.getElem?_take, List.getElem?_drop, Array.length_toList]
  have m : min o c.size = o := by omega
  rw [m]
  by_cases h4 : k < o
  · simp [h4]
  · have h5 : ¬ k - o < us.length := by omega
    simp only [h4, h5, if_false]
    rw [show o + us.length + (k - o - us.length) = k by omega]
    simp

section
variable {P : Program} {T : Tab} (TOk : TabOk P T) {C : Ctx} {μ : Nat → Option Loc} {hp : Nat → Blk} {w : World} (H : InvH C μ hp w)
include TOk H

theorem free_own {l : List Nat} {b : Nat} (h : owns μ (updAll hp (frees hp l)) b) : owns μ hp b := by
  obtain ⟨j, M, h1, h2, h3⟩ := h
  refine ⟨j, M, ?_, h2, h3⟩
  rw [updAll_frees] at h1
  by_cases hm : j ∈ l
  · rw [if_pos hm] at h1
    cases hh : hp j <;> rw [hh] at h1 <;> simp [freeze1, isOwn] at h1 ⊢
  · rwa [if_neg hm] at h1
theorem free_sub {l : List Nat} {b : Nat} (h : ¬ XX C μ hp b) : ¬ XX C μ (updAll hp (frees hp l)) b := by
  rintro (hx | hx)
  · exact h (.inl hx)
  · exact h (.inr (free_own TOk H hx))

omit H in
theorem run_storeAt {t : Nat} {i : TI} (hT : T.get t = some i) {b o : Nat} {c : Array Value} {el : TypeId} (hh : w.heap[b]? = some (.cells c el (0, 0))) {u : Value} (hl : u.cells.size = i.size) (hfit : o + i.size ≤ c.size)
    (h1 : ∀ v ∈ u.cells.toList, v.oneCell' = true) :
    (Instr.storeAt t (.pointer (some ⟨b, o, none⟩)) u).run P w = .ok () (w.setRow b (c.toList.take o ++ u.cells.toList ++ c.toList.drop (o + u.cells.toList.length)).toArray) := by
  have := run_storeCells_at P b o el u.cells.toList 0 c w hh (by simp; omega) h1
  simp only [Nat.add_zero] at this
  simp [Instr.storeAt, Instr.sureAddr, storeVar, run_sizeOf w (TOk t i hT), hl, this]

theorem store_ok {t : Nat} {tv ty : TV} {e : Eff} (he : effStore T hp t tv ty = some e) {v u : Value} (hv : relV μ w.heap (XX C μ hp) tv v) (hy : relV μ w.heap (XX C μ hp) ty u) :
    ∃ w' μ', (Instr.storeAt t v u).run P w = .ok () w' ∧ StepOk C μ hp w e.sets w' μ' := by
  unfold effStore at he
  obtain ⟨i, hT, he1⟩ := bind_some he
  clear he
  obtain ⟨hc, he⟩ := bif_some he1
  clear he1
  simp only [Bool.and_eq_true, lenL_eq] at hc
  obtain ⟨g1, g2⟩ := solid_rel hc.2 hy
  have hsz : (cellsV ty).length = i.size := Nat.eq_of_beq_eq_true hc.1
  have hul := relVs_length _ _ g1
  have hul' : u.cells.size = i.size := by rw [← hsz, ← hul]; simp
  split at he
  · rename_i id off
    split at he <;> try (cases he; done)
    rename_i cs hh
    obtain ⟨hfit, he⟩ := bif_some he
    have hfit := Nat.le_of_ble_eq_true hfit
    rw [lenL_eq] at hfit
    cases he
    simp only [relV] at hv
    obtain ⟨L, b, k1, k2, rfl⟩ := hv
    have hB := H.blk id
    rw [hh] at hB
    obtain ⟨L', k3, b', c, el, k4, k5, k6, k7⟩ := hB
    rw [k1] at k3; cases k3
    rw [k2] at k4; cases k4
    have hrun := run_storeAt TOk (w := w) hT k5 (u := u) (o := L.off + off) hul' (by omega) g2
    obtain ⟨m1, m2⟩ := H.write (w' := w.setRow b (c.toList.take (L.off + off) ++ u.cells.toList ++ c.toList.drop (L.off + off + u.cells.toList.length)).toArray) (i := id) (L := L) (b := b) (B := .box (spliceL cs off (cellsV ty))) (by rw [hh]; rfl) k1 k2 rfl rfl rfl rfl (by simp)
      (fun b' hb' => setRow_other w b b' _ hb') (by
        intro lo n hpr
        obtain ⟨hlo, cs', hcs', hn⟩ := H.loc id L b lo n (by rw [hh]; rfl) k1 k2 hpr
        rw [hh] at hcs'
        cases hcs'
        exact ⟨sameBut_setRow k5 (by omega) (by simp; omega) (by simp; omega), _, rfl, by rw [spliceL_length]; exact hn⟩) (by
        intro K
        refine ⟨L, k1, b, _, el, k2, setRow_heap w b c _ el (0, 0) k5, ?_, ?_⟩
        · rw [spliceL_length]
          simp
          omega
        · rw [spliceL_length]
          have hs := relVs_splice cs off (cellsV ty) _ u.cells.toList k7 g1 (by omega)
          have := seg_splice c.toList u.cells.toList L.off off cs.length (by omega) (by simpa using k6)
          simp only []
          rw [this]
          exact relVs_mono (MuLe.refl μ) K _ _ hs)
    exact ⟨_, μ, hrun, ⟨MuLe.refl μ, m1, m2⟩⟩
  · rename_i id k off
    split at he <;> try (cases he; done)
    rename_i ty' x hh
    obtain ⟨p, hp', he1⟩ := bind_some he
    clear he
    obtain ⟨hfit, he⟩ := bif_some he1
    clear he1
    simp only [Bool.and_eq_true, Bool.not_eq_true'] at hfit
    obtain ⟨hfit, hnb⟩ := hfit
    have hfit := Nat.le_of_ble_eq_true hfit
    have hnb := inL_false hnb
    cases he
    simp only [relV] at hv
    obtain ⟨L, b, k1, k2, k3, rfl⟩ := hv
    have hB := H.blk id
    rw [hh] at hB
    obtain ⟨L', k4, k5, k6, k7, k8⟩ := hB
    rw [k1] at k4; cases k4
    rcases k8 with ⟨k8, _⟩ | ⟨b', c, el, k9, k10, k11, k12⟩
    · rw [k2] at k8; cases k8
    rw [k2] at k9; cases k9
    obtain ⟨F1, F2⟩ := free_ok TOk H p.bor
    -- the element's new data
    have helem := elem_cells (μ := μ) k12 (k := k) (by omega)
    have hspl := relVs_splice _ off (cellsV ty) _ u.cells.toList helem g1 (by rw [cellsOf_length]; omega)
    rw [cellsOf_length] at hspl
    obtain ⟨⟨bs, q1, _⟩, q2, _⟩ := outAll_rel H.blk (fun b hb => free_sub TOk H (l := p.bor) hb) hp' hspl (free_bor TOk H (outAll_rowish hp'))
    have q1 := (relO_nil _ _ _ _ _ q1).1
    have hcap : k * L.n + L.n ≤ L.cap * L.n := by rw [← Nat.succ_mul]; exact Nat.mul_le_mul_right _ (by omega)
    have hrun := run_storeAt TOk (w := w) hT k10 (u := u) (o := L.off + k * L.n + off) hul' (by omega) g2
    have hid : updAll hp (frees hp p.bor) id = hp id := by rw [updAll_frees, if_neg hnb]
    obtain ⟨m1, m2⟩ := F1.write (w' := w.setRow b (c.toList.take (L.off + k * L.n + off) ++ u.cells.toList ++ c.toList.drop (L.off + k * L.n + off + u.cells.toList.length)).toArray) (i := id) (L := L) (b := b) (B := .row ty' (x.set k p.x)) (by rw [hid, hh]; rfl) k1 k2 rfl rfl rfl rfl (by simp)
      (fun b' hb' => setRow_other w b b' _ hb') (by
        intro lo n hpr
        obtain ⟨hlo, cs', hcs', hn⟩ := H.loc id L b lo n (by rw [hh]; rfl) k1 k2 hpr
        rw [hh] at hcs'
        cases hcs') (by
        intro K
        refine ⟨L, k1, k5, by simpa using k6, k7, .inr ⟨b, _, el, k2, setRow_heap w b c _ el (0, 0) k10, ?_, ?_⟩⟩
        · simp
          omega
        · have := seg_set c.toList u.cells.toList L.off (k * L.n) off ty'.n (by omega) (by simp; omega)
          simp only []
          rw [this]
          have := relL_set x (c.toList.drop L.off) k p.x _ (relL_imp (fun x cs => relC_mono (F2.trans K) _ x cs) _ _ k12) (by omega) (relC_length _ _ _ (relC_mono K _ _ _ q1)) (relC_mono K _ _ _ q1)
          have ek : k * L.n = k * ty'.n := by rw [k5]
          simp only [ek] at this ⊢
          simpa [List.drop_drop] using this)
    refine ⟨_, μ, hrun, ⟨MuLe.refl μ, ?_, ?_⟩⟩
    · simp only [updAll]; rw [updAll_comm_frees _ _ _ _ _ hnb]; exact m1
    · simp only [updAll]; rw [updAll_comm_frees _ _ _ _ _ hnb]; exact F2.trans m2
  · cases he

/-! zeros -/
omit TOk H in
theorem relL_zeros {h : Array Obj} {X : Nat → Prop} (t : Ty) (hn : 0 < t.n) : ∀ (k : Nat) (cs : List Value), (∀ i, i < k * t.n → cs[i]? = (zeroC t)[i % t.n]?) → relL t.n (relC h X t) (List.replicate k t.dflt) cs
  | 0, cs, _ => trivial
  | k + 1, cs, hz => by
    have hlen : t.n ≤ cs.length := by
      have := hz (t.n - 1) (by rw [Nat.succ_mul]; omega)
      have hz1 : (zeroC t)[t.n - 1]? = some ((zeroC t)[t.n - 1]'(by rw [zeroC_length]; omega)) := List.getElem?_eq_getElem _
      rw [Nat.mod_eq_of_lt (by omega), hz1] at this
      have := (List.getElem?_eq_some_iff.1 this).1
      omega
    refine ⟨hlen, ?_, ?_⟩
    · have : cs.take t.n = zeroC t := by
        apply List.ext_getElem?
        intro i
        rw [List.getElem?_take]
        by_cases hi : i < t.n
        · rw [if_pos hi, hz i (by rw [Nat.succ_mul]; omega), Nat.mod_eq_of_lt hi]
        · rw [if_neg hi, List.getElem?_eq_none (by rw [zeroC_length]; omega)]
      rw [this]
      exact dflt_rel t
    · refine relL_zeros t hn k _ fun i hi => ?_
      rw [List.getElem?_drop, hz (t.n + i) (by rw [Nat.succ_mul]; omega)]
      congr 1
      exact Nat.add_mod_left _ _
omit TOk H in
theorem zeroCells_get {z : Array Value} {t : Ty} (hz : z.toList = zeroC t) (hn : 0 < t.n) (m : Nat) : ∀ i, i < m → (((Array.range m).map (z[· % z.size]!)).toList)[i]? = (zeroC t)[i % t.n]? := by
  intro i hi
  have hs : z.size = t.n := by rw [← Array.length_toList, hz, zeroC_length]
  have hlt : i % t.n < z.size := by rw [hs]; exact Nat.mod_lt _ hn
  rw [← hz]
  simp [hi, hs, Array.getElem!_eq_getD, Array.getD_eq_getD_getElem?, Array.getElem?_eq_getElem hlt, hlt]

theorem make_ok' {u t : Nat} {k1 k2 : IntKind} {n c : Int} {e : Eff} (he : effMake T hp u t (.dat (.int k1) n) (.dat (.int k2) c) = some e) : OpOk P C μ hp w (Instr.makeSlice t (.int k1 n) (.int k2 c)) e := by
  unfold effMake at he
  simp only at he
  obtain ⟨i, hT, he1⟩ := bind_some he
  clear he
  obtain ⟨info, d, h1, h2, h3, h4, h5, h6⟩ := TOk t i hT
  cases hk : i.kind <;> rw [hk] at he1 h5 <;> simp only at he1 <;> try (cases he1; done)
  rename_i el
  simp only [kindOk] at h5
  subst h5
  obtain ⟨j, hE, he2⟩ := bind_some he1
  clear he1
  obtain ⟨hc, he⟩ := bif_some he2
  clear he2
  simp only [Bool.and_eq_true] at hc
  cases he
  intro hn
  simp only [Bool.and_eq_true, decide_eq_true_eq] at hn
  obtain ⟨⟨n1, n2⟩, rfl⟩ := hn
  have n2 : c ≤ 1073741824 := n2
  obtain ⟨einfo, ed, e1, e2, e3, e4, e5, e6⟩ := TOk el j hE
  have hjn : j.ty.n = j.size := Nat.eq_of_beq_eq_true hc.1.1
  have hpos : 1 ≤ j.size := Nat.le_of_ble_eq_true hc.1.2
  obtain ⟨z, hz, hzc⟩ := e6 hjn
  have hf := fresh_none TOk H hc.2
  have hbytes : (einfo.bytes : Int) * c ≤ 281474976710656 := by
    have h1 : (einfo.bytes : Int) * c ≤ 65536 * c := Int.mul_le_mul_of_nonneg_right (by omega) n1
    omega
  have hrun := run_make (P := P) w t el einfo z h2 e1 hz k1 k2 c c n1 (Int.le_refl _) hbytes (by omega)
  obtain ⟨m1, m2, m3⟩ := H.alloc (w' := w.alloc (.cells (madeCells z.cells (c.toNat * einfo.size)) el)) (i := rid u) (L := ⟨some w.heap.size, 0, c.toNat, c.toNat, j.ty.n⟩) (B := .row j.ty (List.replicate c.toNat j.ty.dflt)) (o := .cells (madeCells z.cells (c.toNat * einfo.size)) el) hf rfl rfl rfl rfl rfl rfl (by
    intro hM K
    refine ⟨_, upd_self _ _ _, rfl, by simp, Nat.le_refl _, .inr ⟨w.heap.size, madeCells z.cells (c.toNat * einfo.size), el, rfl, by show (w.heap.push _)[w.heap.size]? = _; simp, ?_, ?_⟩⟩
    · simp [size_madeCells, e3, hjn]
    · simp only [List.drop_zero]
      refine relL_zeros j.ty (by omega) _ _ fun i hi => ?_
      exact zeroCells_get hzc (by omega) _ i (by rw [e3, ← hjn]; exact hi))
  refine ⟨_, _, _, hrun, ⟨m1, m2, m3⟩, ?_⟩
  simp only [relV]
  exact ⟨⟨some w.heap.size, 0, c.toNat, c.toNat, j.ty.n⟩, some ⟨w.heap.size, 0, none⟩, c.toNat, upd_self _ _ _, by simp, Nat.zero_le _, by simp, by simp, .inr ⟨w.heap.size, rfl, by simp⟩⟩
theorem make_ok {u t : Nat} {a b : TV} {e : Eff} (he : effMake T hp u t a b = some e) {va vb : Value} (ha : relV μ w.heap (XX C μ hp) a va) (hb : relV μ w.heap (XX C μ hp) b vb) : OpOk P C μ hp w (Instr.makeSlice t va vb) e := by
  by_cases h : ∃ k1 n k2 c, a = .dat (.int k1) n ∧ b = .dat (.int k2) c
  · obtain ⟨k1, n, k2, c, rfl, rfl⟩ := h
    rw [int_val ha, int_val hb]
    exact make_ok' TOk H he
  · unfold effMake at he
    split at he
    · exact absurd ⟨_, _, _, _, rfl, rfl⟩ h
    · cases he

end
end Go.VI
set_option linter.unusedVariables false
set_option linter.unusedSimpArgs false
set_option linter.unusedSectionVars false
namespace Go.VI
open Go

theorem relC_ones {h : Array Obj} {X : Nat → Prop} : ∀ (t : Ty) (x : t.D) (cs : List Value), relC h X t x cs → ∀ v ∈ cs, v.oneCell' = true := by
  intro t
  induction t with
  | pair a b iha ihb =>
    intro x cs hr v hv
    rw [← List.take_append_drop a.n cs] at hv
    rcases List.mem_append.1 hv with hv | hv
    · exact iha _ _ hr.1 v hv
    · exact ihb _ _ hr.2 v hv
  | int k => intro x cs hr v hv; simp only [relC] at hr; subst hr; simp at hv; subst hv; rfl
  | bool => intro x cs hr v hv; simp only [relC] at hr; subst hr; simp at hv; subst hv; rfl
  | str => intro x cs hr v hv; simp only [relC] at hr; subst hr; simp at hv; subst hv; rfl
  | unit => intro x cs hr v hv; simp only [relC] at hr; subst hr; cases hv
  | sl e ih => intro x cs hr v hv; obtain ⟨a, cap, h1, _⟩ := hr; subst h1; simp at hv; subst hv; rfl
theorem relL_ones {h : Array Obj} {X : Nat → Prop} {t : Ty} : ∀ (l : List t.D) (cs : List Value), relL t.n (relC h X t) l cs → cs.length = l.length * t.n → ∀ v ∈ cs, v.oneCell' = true
  | [], cs, _, hl, v, hv => by
    have : cs = [] := by simpa using hl
    subst this; cases hv
  | x :: l, cs, ⟨h1, h2, h3⟩, hl, v, hv => by
    rw [← List.take_append_drop t.n cs] at hv
    rcases List.mem_append.1 hv with hv | hv
    · exact relC_ones t x _ h2 v hv
    · exact relL_ones l _ h3 (by simp [Nat.succ_mul] at hl ⊢; omega) v hv

/-- A number for a slice without room. -/
theorem InvH.fresh0 {C : Ctx} {μ : Nat → Option Loc} {hp : Nat → Blk} {w : World} (H : InvH C μ hp w) {i : Nat} {L : Loc} {B : Blk} (hi : hp i = .none) (hb : L.blk = none)
    (new : ∀ h' X', relB (upd μ i (some L)) h' X' i B) :
    MuLe μ (upd μ i (some L)) ∧ InvH C (upd μ i (some L)) (upd hp i B) w ∧ Keeps w.heap w.heap (XX C μ hp) (XX C (upd μ i (some L)) (upd hp i B)) := by
  have hn : μ i = none := by have := H.blk i; rw [hi] at this; exact this
  have hM : MuLe μ (upd μ i (some L)) := by
    intro j M hM
    have : j ≠ i := fun e => by rw [e, hn] at hM; cases hM
    rw [upd_ne _ _ this]; exact hM
  refine ⟨hM, H.next hM rfl rfl rfl (Nat.le_refl _) (fun b _ _ => rfl) ?_ (fun j => j = i) ?_ (fun _ _ _ _ _ _ _ => rfl) ?_ ?_ ?_ (fun _ _ _ _ _ => SameBut.refl rfl) ?_⟩
  · rintro b ⟨j, M, h1, h2, h3⟩
    by_cases e : j = i
    · subst e
      rw [upd_self] at h2
      cases h2
      rw [hb] at h3
      cases h3
    · rw [upd_ne _ _ e] at h1 h2
      exact .inl ⟨j, M, h1, h2, h3⟩
  · intro j hj; exact upd_ne _ _ hj
  · intro j hj hm; rw [upd_ne _ _ hj]; exact hm
  · intro K j hj
    rw [hj, upd_self]
    exact new _ _
  · intro j k M N b hj h1 h2 h3 h4 h5 h6
    subst hj
    rw [upd_self] at h3
    cases h3
    rw [hb] at h5
    cases h5
  · intro j M b lo n hj h1 h2 h3 h4
    subst hj
    rw [upd_self] at h2
    cases h2
    rw [hb] at h3
    cases h3

theorem InvH.drew {C : Ctx} {μ : Nat → Option Loc} {hp : Nat → Blk} {w : World} (H : InvH C μ hp w) : InvH C μ hp w.drew :=
  ⟨H.blk, H.inj, H.sep, H.os, H.tape, H.output, H.size, H.old, H.x0, H.cel, H.loc, H.par⟩

theorem InvH.kill {C : Ctx} {μ : Nat → Option Loc} {hp : Nat → Blk} {w : World} (H : InvH C μ hp w) {q : Nat} (hq : hp q ≠ .none) :
    InvH C μ (upd hp q .dead) w ∧ Keeps w.heap w.heap (XX C μ hp) (XX C μ (upd hp q .dead)) := by
  refine H.release fun i => ?_
  by_cases h : i = q
  · subst h; rw [upd_self]; exact .inr (.inl ⟨rfl, hq⟩)
  · rw [upd_ne _ _ h]; exact .inl rfl

section
variable {P : Program}

theorem run_append (w : World) (t ty e : TypeId) (i : TypeInfo) (z : Value) (ht : P.underlying t = some (.slice e)) (hi : P.info? e = some i) (hz : i.zero = some z)
    (a : Option Addr) (n c : Nat) (olds : List Value) (a' : Option Addr) (m c' : Nat) (news : List Value)
    (ho : (Builtin.firstCells i.size n (.slice a n c)).run P w.drew = .ok olds.toArray w.drew) (hn : (Builtin.firstCells i.size m (.slice a' m c')).run P w.drew = .ok news.toArray w.drew)
    (hg : c < n + m) (h63 : ((n + m : Nat) : Int) ≤ 9223372036854775807) (hfit : Builtin.nextslicecap (n + m) c * i.bytes ≤ 281474976710656) :
    (Builtin.append_ #[t, t] ty #[.slice a n c, .slice a' m c']).run P w =
      .ok (.slice (some ⟨w.heap.size, 0, none⟩) (n + m) (grownCap w (n + m) c e)) (w.drew.alloc (.cells (olds.toArray ++ news.toArray ++ Builtin.zeroCells z.cells (grownCap w (n + m) c e - (n + m))) e)) := by
  have hn' : ¬ (n + m ≤ c) := by omega
  have h63' : ¬ (9223372036854775807 < ((n : Int) + (m : Int))) := by omega
  have h48' : ¬ (281474976710656 < Builtin.nextslicecap (n + m) c * i.bytes) := by omega
  simp [Builtin.append_, run_underlying ht, sizeOf, typeInfo, zeroValue, hi, hz, Builtin.lenOf, hn', h63', h48', Question.forced, hn, ho, newRow, grownCap]
  congr 2
  apply Array.ext'
  simp [List.append_assoc]
theorem run_append_in (w : World) (t ty e : TypeId) (i : TypeInfo) (ht : P.underlying t = some (.slice e)) (hi : P.info? e = some i)
    (b off n c : Nat) (a' : Option Addr) (m c' : Nat) (news : List Value) {w' : World}
    (hn : (Builtin.firstCells i.size m (.slice a' m c')).run P w = .ok news.toArray w) (hst : (storeCells ⟨b, off + n * i.size, none⟩ news 0).run P w = .ok () w') (hg : n + m ≤ c) :
    (Builtin.append_ #[t, t] ty #[.slice (some ⟨b, off, none⟩) n c, .slice a' m c']).run P w = .ok (.slice (some ⟨b, off, none⟩) (n + m) c) w' := by
  simp [Builtin.append_, run_underlying ht, sizeOf, typeInfo, hi, Builtin.lenOf, hg, hn, addr_add, hst]
theorem run_append_0 (w : World) (t ty e : TypeId) (i : TypeInfo) (ht : P.underlying t = some (.slice e)) (hi : P.info? e = some i)
    (a a' : Option Addr) (c' : Nat) :
    (Builtin.append_ #[t, t] ty #[.slice a 0 0, .slice a' 0 c']).run P w = .ok (.slice a 0 0) w := by
  cases a <;> cases a' <;> simp [Builtin.append_, run_underlying ht, sizeOf, typeInfo, hi, Builtin.lenOf, Builtin.firstCells, loadCells, loadCellsFrom, storeCells]

theorem grownCap_ge (w : World) (need old : Nat) (e : TypeId) : need ≤ grownCap w need old e := by
  simp only [grownCap, Question.cut]; omega

variable {T : Tab} (TOk : TabOk P T) {C : Ctx} {μ : Nat → Option Loc} {hp : Nat → Blk} {w : World} (H : InvH C μ hp w)
include TOk H

omit TOk H in
/-- what a slice's first cells hold -/
theorem first_ok {X : Nat → Prop} {ids : List Nat} {t : Ty} {x : List t.D} {a : Option Addr} (hr : readS μ w.heap X ids t x a) :
    ∃ cells : List Value, cells.length = x.length * t.n ∧ relL t.n (relC w.heap X t) x cells ∧ ∀ w2 : World, w2.heap = w.heap → ∀ l cap, (Builtin.firstCells t.n x.length (.slice a l cap)).run P w2 = .ok cells.toArray w2 := by
  rcases hr with rfl | ⟨b, off, c, el, fr, rfl, h5, h6, h7⟩
  · refine ⟨[], by simp, trivial, fun w2 _ l cap => ?_⟩
    cases a <;> simp [Builtin.firstCells, loadCells, loadCellsFrom]
  · have hl := relL_length _ _ h7
    refine ⟨(c.toList.drop off).take (x.length * t.n), by rw [List.length_take]; omega, relL_front _ _ _ h7 (by simp [List.take_take]), fun w2 hw l cap => ?_⟩
    refine run_firstCells_some w2 t.n x.length ⟨b, off, none⟩ l cap _ (by rw [List.length_take]; omega) fun j v hj => ?_
    rw [cell_of (by rw [hw]; exact h5)]
    rw [List.getElem?_take] at hj
    split at hj
    · exact hj
    · cases hj

omit TOk H in
theorem baseOf_rowOf {e : Ty} {tv : TV} {p : List e.D × List Nat} (hb : baseOf e hp tv = some p) : rowOf e hp tv = some p.1 := by
  unfold baseOf at hb
  split at hb
  · cases hb; rfl
  · obtain ⟨y, hy, rfl⟩ := map_some hb; simpa [rowOf] using hy
  · split at hb <;> try (cases hb; done)
    rename_i hh
    obtain ⟨y, hy, rfl⟩ := map_some hb
    simp only [rowOf, hh]
    exact hy
  · cases hb

/-- Appending: what comes of it, for each way that it can go. -/
theorem appendTo {t el : Nat} {j : TI} (hu : P.underlying t = some (.slice el)) (hE : T.get el = some j) (hjn : j.ty.n = j.size) (hpos : 1 ≤ j.size) {u : Nat} (hf : hp (rid u) = .none)
    {tv : TV} {p : List j.ty.D × List Nat} (hb : baseOf j.ty hp tv = some p) {v : Value} (hv : relV μ w.heap (XX C μ hp) tv v) {q : List j.ty.D}
    (hexa : isExa tv = true → p.1 = [] ∨ q ≠ []) (hbig : p.1.length + q.length ≤ 1073741824)
    {s : Sem Value} (news : List Value) (hnl : news.length = q.length * j.ty.n) (hnr : relL j.ty.n (relC w.heap (XX C μ hp) j.ty) q news)
    (hgrow : ∀ a n c olds info z, v = .slice a n c → P.info? el = some info → info.zero = some z → n = p.1.length → c < n + q.length → (Builtin.firstCells info.size n (.slice a n c)).run P w.drew = .ok olds w.drew →
      ((n + q.length : Nat) : Int) ≤ 9223372036854775807 → Builtin.nextslicecap (n + q.length) c * info.bytes ≤ 281474976710656 →
      s.run P w = .ok (.slice (some ⟨w.heap.size, 0, none⟩) (n + q.length) (grownCap w (n + q.length) c el)) (w.drew.alloc (.cells (olds ++ news.toArray ++ Builtin.zeroCells z.cells (grownCap w (n + q.length) c el - (n + q.length))) el)))
    (hin : ∀ b off n c info w', v = .slice (some ⟨b, off, none⟩) n c → P.info? el = some info → n = p.1.length → n + q.length ≤ c → (storeCells ⟨b, off + n * info.size, none⟩ news 0).run P w = .ok () w' → s.run P w = .ok (.slice (some ⟨b, off, none⟩) (n + q.length) c) w')
    (hzero : ∀ a, v = .slice a 0 0 → q = [] → s.run P w = .ok (.slice a 0 0) w) :
    ∃ r w' μ', s.run P w = .ok r w' ∧ StepOk C μ hp w (appL (kills p.2) [(rid u, .row j.ty (p.1 ++ q))]) w' μ' ∧ relV μ' w'.heap (XX C μ' (updAll hp (appL (kills p.2) [(rid u, .row j.ty (p.1 ++ q))]))) (.row (rid u) 0) r := by
  obtain ⟨einfo, ed, e1, e2, e3, e4, e5, e6⟩ := TOk el j hE
  obtain ⟨z, hz, hzc⟩ := e6 hjn
  have hzs : z.cells.size = j.ty.n := by rw [← Array.length_toList, hzc, zeroC_length]
  obtain ⟨a, c, rfl, hc, hrd⟩ := rowOf_rel H.blk (baseOf_rowOf hb) hv
  obtain ⟨olds, ol, orel, orun⟩ := first_ok (P := P) hrd
  -- the kills
  have hkill : (p.2 = [] ∧ ∀ b off, c ≠ 0 → p.1.length + q.length ≤ c → a = some ⟨b, off, none⟩ → False) ∨ (∃ id lo L, p.2 = [id] ∧ (isOwn (hp id) = true ∧ ∀ cs, hp id ≠ .box cs) ∧ tv = .row id lo ∧ μ id = some L ∧ c ≤ L.cap - lo ∧ lo ≤ L.len ∧ L.n = j.ty.n ∧
      (c ≠ 0 → ∃ b cs e0, L.blk = some b ∧ a = some ⟨b, L.off + lo * L.n, none⟩ ∧ w.heap[b]? = some (.cells cs e0 (0, 0)) ∧ L.off + L.cap * L.n ≤ cs.size ∧ relL j.ty.n (relC w.heap (XX C μ hp) j.ty) p.1 (cs.toList.drop (L.off + lo * L.n)))) := by
    unfold baseOf at hb
    split at hb
    · cases hb
      refine .inl ⟨rfl, fun b off hc0 _ _ => ?_⟩
      simp only [relV] at hv
      cases hv
      exact hc0 rfl
    · rename_i u' x
      obtain ⟨y, hy, rfl⟩ := map_some hb
      refine .inl ⟨rfl, fun b off hc0 hle ha => ?_⟩
      obtain ⟨rfl, rfl⟩ := castL_some hy
      simp only [relV] at hv
      obtain ⟨a', h1, h2⟩ := hv
      simp only [Value.slice.injEq] at h1
      obtain ⟨_, _, rfl⟩ := h1
      rcases hexa rfl with h | h
      · simp at h; simp [h] at hc0
      · have : q.length ≠ 0 := fun h' => h (List.eq_nil_of_length_eq_zero h')
        simp at hle
        omega
    · rename_i id lo
      split at hb <;> try (cases hb; done)
      rename_i u' x hh
      obtain ⟨y, hy, rfl⟩ := map_some hb
      obtain ⟨rfl, rfl⟩ := castL_some hy
      simp only [relV] at hv
      obtain ⟨L, a', c', k1, k2, k3, k4, k5, k6⟩ := hv
      simp only [Value.slice.injEq] at k2
      obtain ⟨rfl, _, rfl⟩ := k2
      have hB := H.blk id
      rw [hh] at hB
      obtain ⟨L', g1, g2, g3, g4, g5⟩ := hB
      rw [k1] at g1; cases g1
      refine .inr ⟨id, lo, L, rfl, ⟨by rw [hh]; rfl, by simp [hh]⟩, rfl, k1, k5, k3, g2, fun hc0 => ?_⟩
      obtain ⟨b, hb1, rfl⟩ := k6.resolve_left hc0
      rcases g5 with ⟨g5, _⟩ | ⟨b', cs, e0, g6, g7, g8, g9⟩
      · rw [hb1] at g5; cases g5
      · rw [hb1] at g6; cases g6
        refine ⟨b, cs, e0, hb1, rfl, g7, g8, ?_⟩
        rw [← List.drop_drop, g2]
        exact relL_drop lo _ _ g9
    · cases hb
  -- the heap behind the kills
  have K1 : InvH C μ (updAll hp (kills p.2)) w ∧ Keeps w.heap w.heap (XX C μ hp) (XX C μ (updAll hp (kills p.2))) ∧ updAll hp (kills p.2) (rid u) = .none ∧
      updAll hp (appL (kills p.2) [(rid u, .row j.ty (p.1 ++ q))]) = upd (updAll hp (kills p.2)) (rid u) (.row j.ty (p.1 ++ q)) := by
    rcases hkill with ⟨h1, _⟩ | ⟨id, lo, L, h1, ⟨h2, _⟩, _, _⟩
    · rw [h1]; exact ⟨H, Keeps.refl _ _, hf, rfl⟩
    · rw [h1]
      have hne : hp id ≠ .none := fun h => by rw [h] at h2; cases h2
      have hid : rid u ≠ id := fun h => hne (h ▸ hf)
      obtain ⟨m1, m2⟩ := H.kill hne
      exact ⟨m1, m2, by show upd hp id .dead (rid u) = _; rw [upd_ne _ _ hid]; exact hf, rfl⟩
  obtain ⟨H1, Kp1, hf1, hset⟩ := K1
  by_cases hgr : c < p.1.length + q.length
  · -- a new row
    have hnext := nextslicecap_le hgr
    have hfit : Builtin.nextslicecap (p.1.length + q.length) c * einfo.bytes ≤ 281474976710656 := by
      have : Builtin.nextslicecap (p.1.length + q.length) c * einfo.bytes ≤ 2147483648 * 65536 := Nat.mul_le_mul (by omega) e4
      omega
    have hrun := hgrow a p.1.length c olds.toArray einfo z rfl e1 hz rfl hgr (by rw [e3, ← hjn]; exact orun w.drew rfl p.1.length c) (by omega) hfit
    generalize hN : grownCap w (p.1.length + q.length) c el = N at hrun
    have hNge : p.1.length + q.length ≤ N := hN ▸ grownCap_ge _ _ _ _
    obtain ⟨m1, m2, m3⟩ := H1.drew.alloc (w' := w.drew.alloc (.cells (olds.toArray ++ news.toArray ++ Builtin.zeroCells z.cells (N - (p.1.length + q.length))) el)) (i := rid u) (L := ⟨some w.heap.size, 0, p.1.length + q.length, N, j.ty.n⟩) (B := .row j.ty (p.1 ++ q))
      (o := .cells (olds.toArray ++ news.toArray ++ Builtin.zeroCells z.cells (N - (p.1.length + q.length))) el) hf1 rfl rfl rfl rfl rfl rfl (by
        intro hM K
        refine ⟨_, upd_self _ _ _, rfl, by simp, by simpa using hNge, .inr ⟨w.heap.size, olds.toArray ++ news.toArray ++ Builtin.zeroCells z.cells (N - (p.1.length + q.length)), el, rfl, by show (w.heap.push _)[w.heap.size]? = _; simp, ?_, ?_⟩⟩
        · have : N * j.ty.n = p.1.length * j.ty.n + q.length * j.ty.n + (N - (p.1.length + q.length)) * j.ty.n := by
            rw [← Nat.add_mul, ← Nat.add_mul]; congr 1; omega
          simp [Builtin.zeroCells, hzs, ol, hnl]
          omega
        · have K' : Keeps w.heap _ (XX C μ hp) _ := Kp1.trans K
          have := relL_append p.1 q olds news (relL_imp (fun x cs => relC_mono K' _ x cs) _ _ orel) ol (relL_imp (fun x cs => relC_mono K' _ x cs) _ _ hnr)
          refine relL_front _ _ _ this ?_
          simp only [List.drop_zero, Array.toList_append]
          rw [List.take_append_of_le_length (by simp [ol, hnl, Nat.add_mul])])
    refine ⟨_, _, upd μ (rid u) (some ⟨some w.heap.size, 0, p.1.length + q.length, N, j.ty.n⟩), hrun, ?_, ?_⟩
    · refine ⟨m1, ?_, ?_⟩
      · rw [hset]; exact m2
      · rw [hset]; exact Kp1.trans m3
    · simp only [relV]
      exact ⟨⟨some w.heap.size, 0, p.1.length + q.length, N, j.ty.n⟩, some ⟨w.heap.size, 0, none⟩, N, upd_self _ _ _, by simp, Nat.zero_le _, by simpa using hNge, by simp, .inr ⟨w.heap.size, rfl, by simp⟩⟩
  · have hle : p.1.length + q.length ≤ c := by omega
    by_cases hc0 : c = 0
    · -- nothing to nothing
      subst hc0
      have hp0 : p.1 = [] := List.eq_nil_of_length_eq_zero (by omega)
      have hq0 : q = [] := List.eq_nil_of_length_eq_zero (by omega)
      have hrun := hzero a (by simp [hp0]) hq0
      obtain ⟨m1, m2, m3⟩ := H1.fresh0 (i := rid u) (L := ⟨none, 0, 0, 0, j.ty.n⟩) (B := .row j.ty (p.1 ++ q)) hf1 rfl (fun h' X' => ⟨_, upd_self _ _ _, rfl, by simp [hp0, hq0], Nat.le_refl _, .inl ⟨rfl, rfl⟩⟩)
      refine ⟨_, _, upd μ (rid u) (some ⟨none, 0, 0, 0, j.ty.n⟩), hrun, ?_, ?_⟩
      · exact ⟨m1, by rw [hset]; exact m2, by rw [hset]; exact Kp1.trans m3⟩
      · simp only [relV]
        exact ⟨⟨none, 0, 0, 0, j.ty.n⟩, a, 0, upd_self _ _ _, rfl, Nat.le_refl _, Nat.le_refl _, Nat.le_refl _, .inl rfl⟩
    · -- into the room behind
      rcases hkill with ⟨h1, h2⟩ | ⟨id, lo, L, h1, ⟨h2, hq0⟩, h3, h4, h5, h5', h6, h7⟩
      · exfalso
        -- neither a nil slice nor one without room
        unfold baseOf at hb
        split at hb
        · simp only [relV] at hv
          simp only [Value.slice.injEq] at hv
          exact hc0 hv.2.2
        · rename_i u' x
          obtain ⟨y, hy, rfl⟩ := map_some hb
          obtain ⟨rfl, rfl⟩ := castL_some hy
          simp only [relV] at hv
          obtain ⟨a', g1, g2⟩ := hv
          simp only [Value.slice.injEq] at g1
          obtain ⟨_, _, rfl⟩ := g1
          rcases hexa rfl with h | h
          · simp at h; simp [h] at hc0
          · have : q.length ≠ 0 := fun h' => h (List.eq_nil_of_length_eq_zero h')
            simp at hle
            omega
        · split at hb <;> try (cases hb; done)
          obtain ⟨y, hy, rfl⟩ := map_some hb
          simp at h1
        · cases hb
      · obtain ⟨b, cs, e0, k1, rfl, k3, k4, k5⟩ := h7 hc0
        have hsz : einfo.size = j.ty.n := by rw [e3, hjn]
        have hmul : lo * L.n + c * L.n ≤ L.cap * L.n := by rw [← Nat.add_mul]; exact Nat.mul_le_mul_right _ (by omega)
        have hmul2 : p.1.length * j.ty.n + q.length * j.ty.n ≤ c * j.ty.n := by rw [← Nat.add_mul]; exact Nat.mul_le_mul_right _ hle
        have hst := run_storeCells_at P b (L.off + lo * L.n + p.1.length * einfo.size) e0 news 0 cs w k3 (by rw [hnl, hsz, h6] at *; simp; omega) (relL_ones _ _ hnr hnl)
        simp only [Nat.add_zero] at hst
        have hrun := hin b (L.off + lo * L.n) p.1.length c einfo _ rfl e1 rfl hle hst
        have hne : hp id ≠ .none := fun h => by rw [h] at h2; cases h2
        obtain ⟨m1, m2, m3⟩ := H.retake (q := id) (i := rid u) (L := L) (L' := ⟨some b, L.off + lo * L.n, p.1.length + q.length, c, j.ty.n⟩) (B := .row j.ty (p.1 ++ q))
          (w' := w.setRow b (cs.toList.take (L.off + lo * L.n + p.1.length * einfo.size) ++ news ++ cs.toList.drop (L.off + lo * L.n + p.1.length * einfo.size + news.length)).toArray)
          h2 h4 hf (by simp only [Option.some.injEq]; rintro _ rfl; exact k1) rfl rfl rfl rfl (by simp) (fun b' hb' => setRow_other w b b' _ (fun e => hb' (by rw [k1, e]))) hq0 (by
            intro hM K
            refine ⟨_, upd_self _ _ _, rfl, by simp, hle, .inr ⟨b, _, e0, rfl, setRow_heap w b cs _ e0 (0, 0) k3, ?_, ?_⟩⟩
            · rw [h6] at *
              rw [hsz, hnl]
              simp [hnl]
              omega
            · have hD := relL_imp (fun x cs => relC_mono K j.ty x cs) _ _ k5
              have hD1 : relL j.ty.n (relC _ _ j.ty) p.1 ((cs.toList.drop (L.off + lo * L.n)).take (p.1.length * j.ty.n)) := relL_front _ _ _ hD (by simp [List.take_take])
              have hlen := relL_length _ _ k5
              have := relL_append p.1 q _ news hD1 (by rw [List.length_take]; omega) (relL_imp (fun x cs => relC_mono K _ x cs) _ _ hnr)
              refine relL_front _ _ _ this ?_
              rw [hsz]
              simp only []
              have hcs : L.off + lo * L.n + p.1.length * j.ty.n ≤ cs.toList.length := by simp at hlen ⊢; omega
              rw [List.append_assoc, List.drop_append_of_le_length (by rw [List.length_take]; omega), List.drop_take, Nat.add_sub_cancel_left, ← List.append_assoc]
              rw [List.take_append_of_le_length (by simp [hnl, Nat.add_mul]; simp at hlen; omega)])
        refine ⟨_, _, upd μ (rid u) (some ⟨some b, L.off + lo * L.n, p.1.length + q.length, c, j.ty.n⟩), hrun, ?_, ?_⟩
        · refine ⟨m1, ?_, ?_⟩
          · rw [h1]; exact m2
          · rw [h1]; exact m3
        · simp only [relV]
          exact ⟨⟨some b, L.off + lo * L.n, p.1.length + q.length, c, j.ty.n⟩, some ⟨b, L.off + lo * L.n, none⟩, c, upd_self _ _ _, by simp, Nat.zero_le _, by simpa using hle, by simp, .inr ⟨b, rfl, by simp⟩⟩

end
end Go.VI
set_option linter.unusedVariables false
set_option linter.unusedSimpArgs false
set_option linter.unusedSectionVars false
namespace Go.VI
open Go

theorem i64_small {n : Int} (h0 : 0 ≤ n) (h1 : n ≤ 1073741824) : IntKind.i64.wrap n = n := by rw [IntKind.wrap_i64]; omega

section
variable {P : Program}

theorem run_appendZ (w : World) (t t' ty e : TypeId) (k : IntKind) (i : TypeInfo) (z : Value) (ht : P.underlying t = some (.slice e)) (ht' : P.underlying t' = some (.int k)) (hi : P.info? e = some i) (hz : i.zero = some z)
    (a : Option Addr) (n c : Nat) (olds : Array Value) (m : Int) (h0 : 0 ≤ m) (h1 : m ≤ 1073741824) (hb : i.bytes ≤ 65536)
    (ho : (Builtin.firstCells i.size n (.slice a n c)).run P w.drew = .ok olds w.drew) (hs : z.cells.size = i.size) (hp : 0 < i.size)
    (hg : c < n + m.toNat) (h63 : ((n + m.toNat : Nat) : Int) ≤ 9223372036854775807) (hfit : Builtin.nextslicecap (n + m.toNat) c * i.bytes ≤ 281474976710656) :
    (Builtin.append_ #[t, t'] ty #[.slice a n c, .int .i64 m]).run P w =
      .ok (.slice (some ⟨w.heap.size, 0, none⟩) (n + m.toNat) (grownCap w (n + m.toNat) c e)) (w.drew.alloc (.cells (olds ++ Builtin.zeroCells z.cells m.toNat ++ Builtin.zeroCells z.cells (grownCap w (n + m.toNat) c e - (n + m.toNat))) e)) := by
  have hn' : ¬ (n + m.toNat ≤ c) := by omega
  have hw := i64_small h0 h1
  have hneg : ¬ m < 0 := by omega
  have hmul : ¬ (281474976710656 < m * (i.bytes : Int)) := by
    have : m * (i.bytes : Int) ≤ 1073741824 * 65536 := Int.mul_le_mul h1 (by omega) (by omega) (by omega)
    omega
  have h63' : ¬ (9223372036854775807 < ((n : Int) + (m.toNat : Int))) := by omega
  have hmx : max m 0 = m := by omega
  have h63'' : ¬ (9223372036854775807 < ((n : Int) + m)) := by omega
  have h48' : ¬ (281474976710656 < Builtin.nextslicecap (n + m.toNat) c * i.bytes) := by omega
  by_cases hm : m.toNat * i.size = 0
  · have hm0 : m.toNat = 0 := by
      rcases Nat.mul_eq_zero.1 hm with h | h
      · exact h
      · omega
    have hz0 : Builtin.zeroCells z.cells 0 = #[] := by simp [Builtin.zeroCells, Array.range_zero']
    have hm1 : m = 0 := by omega
    subst hm1
    simp only [Int.toNat_zero, Nat.add_zero] at hn' h48' h63' ⊢
    have hw0 : IntKind.i64.wrap 0 = 0 := hw
    have h63n : ¬ (9223372036854775807 < (n : Int)) := by omega
    simp [Builtin.append_, run_underlying ht, run_underlying ht', sizeOf, typeInfo, zeroValue, hi, hz, asInt, asIntOf, hw0, hn', h63n, h48', Question.forced, ho, newRow, grownCap, hz0]
  · simp [Builtin.append_, run_underlying ht, run_underlying ht', sizeOf, typeInfo, zeroValue, hi, hz, asInt, asIntOf, hw, hneg, hmul, hmx, h63'', hn', h63', h48', Question.forced, ho, newRow, grownCap, hm]

theorem run_appendZ_in (w : World) (t t' ty e : TypeId) (k : IntKind) (i : TypeInfo) (z : Value) (ht : P.underlying t = some (.slice e)) (ht' : P.underlying t' = some (.int k)) (hi : P.info? e = some i) (hz : i.zero = some z)
    (b off n c : Nat) (m : Int) (h0 : 0 ≤ m) (h1 : m ≤ 1073741824) (hb : i.bytes ≤ 65536) (hp : 0 < i.size) (hg : n + m.toNat ≤ c) {w' : World}
    (hst : (storeCells ⟨b, off + n * i.size, none⟩ (Builtin.zeroCells z.cells m.toNat).toList 0).run P w = .ok () w') :
    (Builtin.append_ #[t, t'] ty #[.slice (some ⟨b, off, none⟩) n c, .int .i64 m]).run P w = .ok (.slice (some ⟨b, off, none⟩) (n + m.toNat) c) w' := by
  have hw := i64_small h0 h1
  have hneg : ¬ m < 0 := by omega
  have hmul : ¬ (281474976710656 < m * (i.bytes : Int)) := by
    have : m * (i.bytes : Int) ≤ 1073741824 * 65536 := Int.mul_le_mul h1 (by omega) (by omega) (by omega)
    omega
  by_cases hm : m.toNat * i.size = 0
  · have hm0 : m.toNat = 0 := by
      rcases Nat.mul_eq_zero.1 hm with h | h
      · exact h
      · omega
    have hz0 : Builtin.zeroCells z.cells 0 = #[] := by simp [Builtin.zeroCells, Array.range_zero']
    have hm1 : m = 0 := by omega
    subst hm1
    have hw0 : IntKind.i64.wrap 0 = 0 := hw
    simp only [Int.toNat_zero, Nat.add_zero, hz0] at hst hg ⊢
    simp [Builtin.append_, run_underlying ht, run_underlying ht', sizeOf, typeInfo, zeroValue, hi, hz, asInt, asIntOf, hw0, hg, addr_add, hst]
  · simp [Builtin.append_, run_underlying ht, run_underlying ht', sizeOf, typeInfo, zeroValue, hi, hz, asInt, asIntOf, hw, hneg, hmul, hg, addr_add, hst, hm]
theorem run_appendZ_0 (w : World) (t t' ty e : TypeId) (k : IntKind) (i : TypeInfo) (ht : P.underlying t = some (.slice e)) (ht' : P.underlying t' = some (.int k)) (hi : P.info? e = some i) (a : Option Addr) :
    (Builtin.append_ #[t, t'] ty #[.slice a 0 0, .int .i64 0]).run P w = .ok (.slice a 0 0) w := by
  have hw0 : IntKind.i64.wrap 0 = 0 := i64_small (by omega) (by omega)
  cases a <;> simp [Builtin.append_, run_underlying ht, run_underlying ht', sizeOf, typeInfo, hi, asInt, asIntOf, hw0, storeCells]

variable {T : Tab} (TOk : TabOk P T) {C : Ctx} {μ : Nat → Option Loc} {hp : Nat → Blk} {w : World} (H : InvH C μ hp w)
include TOk H

theorem append_ok {u t t' ty : Nat} {s y : TV} {e : Eff} (htt : Nat.beq t t' = true) (he : effAppend T hp u t s y = some e) {v vy : Value} (hv : relV μ w.heap (XX C μ hp) s v) (hy : relV μ w.heap (XX C μ hp) y vy) :
    OpOk P C μ hp w (Builtin.append_ #[t, t'] ty #[v, vy]) e := by
  cases Nat.eq_of_beq_eq_true htt
  unfold effAppend at he
  obtain ⟨i, hT, he1⟩ := bind_some he
  clear he
  obtain ⟨info, d, h1, h2, h3, h4, h5, h6⟩ := TOk t i hT
  cases hk : i.kind <;> rw [hk] at he1 h5 <;> simp only at he1 <;> try (cases he1; done)
  rename_i el
  simp only [kindOk] at h5
  subst h5
  obtain ⟨j, hE, he2⟩ := bind_some he1
  clear he1
  obtain ⟨p, hb, he3⟩ := bind_some he2
  clear he2
  obtain ⟨q, hq, he4⟩ := bind_some he3
  clear he3
  obtain ⟨hc, he⟩ := bif_some he4
  clear he4
  simp only [Bool.and_eq_true] at hc
  have hjn : j.ty.n = j.size := Nat.eq_of_beq_eq_true hc.1.1
  have hpos : 1 ≤ j.size := Nat.le_of_ble_eq_true hc.1.2
  have hf := fresh_none TOk H hc.2
  cases he
  intro hn
  simp only [Bool.and_eq_true] at hn
  have hbig := Nat.le_of_ble_eq_true hn.2
  have hexa : isExa s = true → p.1 = [] ∨ q ≠ [] := by
    intro hx
    have := hn.1
    rw [hx] at this
    simp at this
    rcases this with h | h
    · exact .inl h
    · exact .inr h
  obtain ⟨a', c', rfl, hc', hrd⟩ := rowOf_rel H.blk hq hy
  obtain ⟨news, hnl, hnr, hnrun⟩ := first_ok (P := P) hrd
  obtain ⟨einfo, ed, e1, e2, e3, e4, e5, e6⟩ := TOk el j hE
  have hsz : einfo.size = j.ty.n := by rw [e3, hjn]
  obtain ⟨r, w', μ', g1, g2, g3⟩ := appendTo TOk H h2 hE hjn hpos hf hb hv (q := q) hexa (by simpa [big] using hbig) (s := Builtin.append_ #[t, t] ty #[v, .slice a' q.length c']) news hnl hnr
    (by
      rintro a n c olds info' z rfl hi' hz rfl hg ho h63 hfit
      rw [e1] at hi'; cases hi'
      have := run_append (P := P) w t ty el einfo z h2 e1 hz a p.1.length c olds.toList a' q.length c' news (by simpa using ho) (by rw [hsz]; exact hnrun w.drew rfl _ _) hg h63 hfit
      simpa using this)
    (by
      rintro b off n c info' w'' rfl hi' rfl hg hst
      rw [e1] at hi'; cases hi'
      exact run_append_in (P := P) w t ty el einfo h2 e1 b off p.1.length c a' q.length c' news (by rw [hsz]; exact hnrun w rfl _ _) hst hg)
    (by
      rintro a rfl rfl
      exact run_append_0 (P := P) w t ty el einfo h2 e1 a a' c')
  exact ⟨r, w', μ', g1, g2, g3⟩

end
end Go.VI
set_option linter.unusedVariables false
set_option linter.unusedSimpArgs false
set_option linter.unusedSectionVars false
namespace Go.VI
open Go

theorem relL_splice {α : Type} {n : Nat} {R : α → List Value → Prop} {x y : List α} {D news : List Value} {lo : Nat} (hx : relL n R x D) (hy : relL n R y news) (hnl : news.length = y.length * n) (hlo : lo + y.length ≤ x.length) :
    relL n R (x.take lo ++ y ++ x.drop (lo + y.length)) (D.take (lo * n) ++ news ++ D.drop (lo * n + news.length)) := by
  have hl := relL_length _ _ hx
  have hmul : lo * n + y.length * n ≤ x.length * n := by rw [← Nat.add_mul]; exact Nat.mul_le_mul_right _ hlo
  have h1 : relL n R (x.take lo) (D.take (lo * n)) := relL_front _ _ _ (relL_take lo _ _ hx) (by rw [List.length_take, Nat.min_eq_left (by omega)]; simp [List.take_take])
  have h2 := relL_append _ y _ news h1 (by rw [List.length_take, List.length_take]; rw [Nat.min_eq_left (by omega), Nat.min_eq_left (by omega)]) hy
  have h3 := relL_drop (lo + y.length) _ _ hx
  rw [Nat.add_mul, ← hnl] at h3
  exact relL_append _ _ _ _ h2 (by rw [List.length_append, List.length_append, List.length_take, List.length_take, hnl, Nat.add_mul]; rw [Nat.min_eq_left (by omega), Nat.min_eq_left (by omega)]) h3

section
variable {P : Program} {T : Tab} (TOk : TabOk P T) {C : Ctx} {μ : Nat → Option Loc} {hp : Nat → Blk} {w : World} (H : InvH C μ hp w)
include TOk H

theorem appendZ_ok' {u t t' ty : Nat} {s : TV} {n : Int} {e : Eff} (he : effAppendZ T hp u t t' s (.dat (.int .i64) n) = some e) {v : Value} (hv : relV μ w.heap (XX C μ hp) s v) :
    OpOk P C μ hp w (Builtin.append_ #[t, t'] ty #[v, .int .i64 n]) e := by
  unfold effAppendZ at he
  simp only at he
  obtain ⟨i, hT, he1⟩ := bind_some he
  clear he
  obtain ⟨i', hT', he2⟩ := bind_some he1
  clear he1
  obtain ⟨info, d, h1, h2, h3, h4, h5, h6⟩ := TOk t i hT
  obtain ⟨info', d', h1', h2', h3', h4', h5', h6'⟩ := TOk t' i' hT'
  cases hk' : i'.kind <;> rw [hk'] at he2 h5' <;> simp only at he2 <;> try (cases he2; done)
  rename_i k
  simp only [kindOk] at h5'
  subst h5'
  cases hk : i.kind <;> rw [hk] at he2 h5 <;> simp only at he2 <;> try (cases he2; done)
  rename_i el
  simp only [kindOk] at h5
  subst h5
  obtain ⟨j, hE, he3⟩ := bind_some he2
  clear he2
  obtain ⟨p, hb, he4⟩ := bind_some he3
  clear he3
  obtain ⟨hc, he⟩ := bif_some he4
  clear he4
  simp only [Bool.and_eq_true, Bool.not_eq_true'] at hc
  have hjn : j.ty.n = j.size := Nat.eq_of_beq_eq_true hc.1.1.1
  have hpos : 1 ≤ j.size := Nat.le_of_ble_eq_true hc.1.1.2
  have hf := fresh_none TOk H hc.1.2
  cases he
  intro hn
  simp only [Bool.and_eq_true, decide_eq_true_eq] at hn
  have hbig := Nat.le_of_ble_eq_true hn.2
  have hbig : p.1.length + n.toNat ≤ 1073741824 := hbig
  have hn0 : 0 ≤ n := hn.1
  obtain ⟨einfo, ed, e1, e2, e3, e4, e5, e6⟩ := TOk el j hE
  have hsz : einfo.size = j.ty.n := by rw [e3, hjn]
  obtain ⟨z, hz, hzc⟩ := e6 hjn
  have hzs : z.cells.size = j.ty.n := by rw [← Array.length_toList, hzc, zeroC_length]
  obtain ⟨r, w', μ', g1, g2, g3⟩ := appendTo TOk H h2 hE hjn hpos hf hb hv (q := List.replicate n.toNat j.ty.dflt) (by rw [hc.2]; simp) (by simpa using hbig) (s := Builtin.append_ #[t, t'] ty #[v, .int .i64 n]) (Builtin.zeroCells z.cells n.toNat).toList
    (by simp [Builtin.zeroCells, hzs])
    (by
      refine relL_zeros j.ty (by omega) _ _ fun i hi => ?_
      simp only [Builtin.zeroCells]
      exact zeroCells_get hzc (by omega) _ i (by rw [hzs]; exact hi))
    (by
      rintro a m c olds info'' z' rfl hi' hz' rfl hg ho h63 hfit
      rw [e1] at hi'; cases hi'
      rw [hz] at hz'; cases hz'
      simp only [List.length_replicate] at hg h63 hfit ⊢
      have := run_appendZ (P := P) w t t' ty el k einfo z h2 h2' e1 hz a p.1.length c olds n hn0 (by omega) e4 ho (by rw [hzs, hsz]) (by omega) hg h63 hfit
      simpa using this)
    (by
      rintro b off m c info'' w'' rfl hi' rfl hg hst
      rw [e1] at hi'; cases hi'
      simp only [List.length_replicate] at hg ⊢
      exact run_appendZ_in (P := P) w t t' ty el k einfo z h2 h2' e1 hz b off p.1.length c n hn0 (by omega) e4 (by omega) hg hst)
    (by
      rintro a rfl hq
      have : n = 0 := by
        have : n.toNat = 0 := by simpa using hq
        omega
      subst this
      exact run_appendZ_0 (P := P) w t t' ty el k einfo h2 h2' e1 a)
  exact ⟨r, w', μ', g1, g2, g3⟩
theorem appendZ_ok {u t t' ty : Nat} {s y : TV} {e : Eff} (he : effAppendZ T hp u t t' s y = some e) {v vy : Value} (hv : relV μ w.heap (XX C μ hp) s v) (hy : relV μ w.heap (XX C μ hp) y vy) :
    OpOk P C μ hp w (Builtin.append_ #[t, t'] ty #[v, vy]) e := by
  by_cases h : ∃ n, y = .dat (.int .i64) n
  · obtain ⟨n, rfl⟩ := h
    rw [int_val hy]
    exact appendZ_ok' TOk H he hv
  · unfold effAppendZ at he
    split at he
    · exact absurd ⟨_, rfl⟩ h
    · cases he

/-! slices cut short -/
theorem trunc_ok {t u : Nat} {tv : TV} {lo hi mx : Option TV} {e : Eff} (hft : sizeFits T hp t tv = true) (he : effTrunc hp u lo hi mx tv = some e) {v : Value} {vl vh vm : Option Value} (hv : relV μ w.heap (XX C μ hp) tv v)
    (hl : optRel μ w.heap (XX C μ hp) lo vl) (hh : optRel μ w.heap (XX C μ hp) hi vh) (hm : optRel μ w.heap (XX C μ hp) mx vm) : OpOk P C μ hp w (Instr.sliceAt t v vl vh vm) e := by
  obtain ⟨ti, el, tj, hT, hk, hE, hu, hsz, ok⟩ := sizeFits_ok TOk hft
  unfold effTrunc at he
  split at he <;> try (cases he; done)
  rename_i id
  split at he <;> try (cases he; done)
  rename_i ty x hhp
  split at he <;> try (cases he; done)
  rename_i k r
  obtain ⟨hf, he⟩ := bif_some he
  have hf := fresh_none TOk H hf
  cases vl <;> simp only [optRel] at hl
  cases vm <;> simp only [optRel] at hm
  cases vh <;> simp only [optRel] at hh
  rename_i vh
  rw [int_val hh]
  cases he
  intro hn
  simp only [Bool.and_eq_true, decide_eq_true_eq] at hn
  simp only [relV] at hv
  obtain ⟨L, a, c, h1, rfl, h3, h4, h5, h6⟩ := hv
  have hB := H.blk id
  rw [hhp] at hB
  obtain ⟨L', k1, k2, k3, k4, k5⟩ := hB
  rw [h1] at k1; cases k1
  obtain ⟨n1, n2⟩ := hn
  have n2 : r ≤ (x.length : Int) := n2
  have n1 : (0 : Int) ≤ r := n1
  have hrn : r.toNat ≤ x.length := Int.toNat_le.2 n2
  have hlen : L.len - 0 = x.length := by omega
  have hb : (Instr.sliceBounds true (L.len - 0) c none (some (.int k r)) none).run P w = .ok (0, r.toNat, c) w := by
    have := run_bounds (P := P) (w := w) (n := L.len - 0) (cap := c) (lo := none) (hi := some r) (vl := none) (vh := some (.int k r)) trivial rfl (by simp [okS]; omega) h4
    simpa [loN, hiN] using this
  have hrun := run_sliceAt hu ok (a := a) hb
  simp only [Nat.zero_mul, Nat.sub_zero] at hrun
  have hadd : (if c = 0 then a else a.map (·.add 0)) = a := by
    split
    · rfl
    · cases a <;> simp [Addr.add]
  rw [hadd] at hrun
  have hne : hp id ≠ .none := by rw [hhp]; simp
  have hid : rid u ≠ id := fun h => hne (h ▸ hf)
  by_cases hc : c = 0
  · subst hc
    have hx0 : x.length = 0 := by omega
    have hx : x = [] := List.eq_nil_of_length_eq_zero hx0
    have hr0 : r.toNat = 0 := Nat.le_zero.1 (hx0 ▸ hrn)
    obtain ⟨H1, Kp1⟩ := H.kill hne
    obtain ⟨m1, m2, m3⟩ := H1.fresh0 (i := rid u) (L := ⟨none, 0, 0, 0, ty.n⟩) (B := .row ty (x.take r.toNat)) (by rw [upd_ne _ _ hid]; exact hf) rfl (fun h' X' => ⟨_, upd_self _ _ _, rfl, by simp [hx], Nat.le_refl _, .inl ⟨rfl, rfl⟩⟩)
    refine ⟨_, _, upd μ (rid u) (some ⟨none, 0, 0, 0, ty.n⟩), by simpa using hrun, ⟨m1, m2, Kp1.trans m3⟩, ?_⟩
    simp only [relV]
    exact ⟨⟨none, 0, 0, 0, ty.n⟩, a, 0, upd_self _ _ _, by simp [hr0], Nat.le_refl _, Nat.le_refl _, Nat.le_refl _, .inl rfl⟩
  · obtain ⟨b, hb1, rfl⟩ := h6.resolve_left hc
    rcases k5 with ⟨k5, _⟩ | ⟨b', cs, e0, k6, k7, k8, k9⟩
    · rw [hb1] at k5; cases k5
    · rw [hb1] at k6; cases k6
      have hmul : c * ty.n ≤ L.cap * L.n := by rw [k2]; exact Nat.mul_le_mul_right _ (by omega)
      obtain ⟨m1, m2, m3⟩ := H.retake (w' := w) (q := id) (i := rid u) (L := L) (L' := ⟨some b, L.off, r.toNat, c, ty.n⟩) (B := .row ty (x.take r.toNat)) (by rw [hhp]; rfl) h1 hf (by simp only [Option.some.injEq]; rintro _ rfl; exact hb1) rfl rfl rfl rfl rfl (fun _ _ => rfl) (by simp [hhp]) (by
        intro hM K
        refine ⟨_, upd_self _ _ _, rfl, by rw [List.length_take, Nat.min_eq_left hrn], by show r.toNat ≤ c; omega, .inr ⟨b, cs, e0, rfl, k7, by show L.off + c * ty.n ≤ cs.size; omega, ?_⟩⟩
        exact relL_imp (fun x cs => relC_mono K _ x cs) _ _ (relL_take r.toNat _ _ k9))
      refine ⟨_, _, upd μ (rid u) (some ⟨some b, L.off, r.toNat, c, ty.n⟩), hrun, ⟨m1, m2, m3⟩, ?_⟩
      simp only [relV]
      exact ⟨⟨some b, L.off, r.toNat, c, ty.n⟩, some ⟨b, L.off + 0 * L.n, none⟩, c, upd_self _ _ _, by simp, Nat.zero_le _, by show r.toNat - 0 ≤ c; omega, by simp, .inr ⟨b, rfl, by simp⟩⟩

end
end Go.VI
set_option linter.unusedVariables false
set_option linter.unusedSimpArgs false
set_option linter.unusedSectionVars false
namespace Go.VI
open Go

theorem run_buildSlice {P : Program} (w : World) (t e : TypeId) (len : Nat) (parts : Array (Nat × Value)) (i : TypeInfo) (z : Value) (ht : P.underlying t = some (.slice e)) (hi : P.info? e = some i) (hz : i.zero = some z) (hb : len * i.size ≤ 16777216)
    (us' : Array Value) (hf : Instr.fill (fun k => some (k * i.size, i.size)) ((Array.range (len * i.size)).map ((if len * i.size = 0 then #[] else z.cells)[· % (if len * i.size = 0 then #[] else z.cells : Array Value).size]!)) parts.toList = some us') :
    (Instr.buildSlice t len parts).run P w = .ok (.slice (some ⟨w.heap.size, 0, none⟩) len len) (w.alloc (.cells us' e)) := by
  have hs : (sizeOf e).run P w = .ok i.size w := by simp [sizeOf, typeInfo, hi]
  have hnb : ¬ (len * i.size > 2 ^ 24) := by omega
  by_cases h0 : len * i.size = 0
  · simp only [if_pos h0] at hf
    simp only [Instr.buildSlice, Sem.run_bind, run_underlying ht, Result.andThen_ok, hs, if_neg hnb, if_pos h0, Sem.run_pure, hf, Sem.run_map, newRow, run_newObj]
    rfl
  · simp only [if_neg h0] at hf
    have hzv : (zeroValue e).run P w = .ok z w := by simp [zeroValue, typeInfo, hi, hz]
    simp only [Instr.buildSlice, Sem.run_bind, run_underlying ht, Result.andThen_ok, hs, if_neg hnb, if_neg h0, Sem.run_pure, hzv, hf, Sem.run_map, newRow, run_newObj]
    rfl

section
variable {P : Program} {T : Tab} (TOk : TabOk P T) {C : Ctx} {μ : Nat → Option Loc} {hp : Nat → Blk} {w : World} (H : InvH C μ hp w)
include TOk H

omit TOk H in
theorem buildElems_rowish {e : Ty} : ∀ (l : List TV) (q : List e.D × List Nat), buildElems hp e l = some q → ∀ i ∈ q.2, rowish (hp i) = true
  | [], q, he, i, hi => by simp only [buildElems, Option.some.injEq] at he; subst he; cases hi
  | v :: l, q, he, i, hi => by
    simp only [buildElems] at he
    obtain ⟨_, he1⟩ := bif_some he
    obtain ⟨p, hp', he2⟩ := bind_some he1
    obtain ⟨r, hr, rfl⟩ := map_some he2
    simp only [appL_eq, List.mem_append] at hi
    rcases hi with hi | hi
    · exact outAll_rowish hp' i hi
    · exact buildElems_rowish l r hr i hi

omit TOk in
theorem fillSeq {e : Ty} {n : Nat} (hn : e.n = n) {X' : Nat → Prop} (hX : ∀ b, ¬ XX C μ hp b → ¬ X' b) : ∀ (ps : List (Nat × TV)) (vs : List (Nat × Value)) (i : Nat) (us : Array Value) (q : List e.D × List Nat), seqP i ps = true → relPs μ w.heap (XX C μ hp) ps vs →
    buildElems hp e (mapL (·.2) ps) = some q → (∀ i ∈ q.2, ∀ L b, μ i = some L → L.blk = some b → ¬ X' b) → (i + ps.length) * n ≤ us.size →
    ∃ us' mid, Instr.fill (fun i => some (i * n, n)) us vs = some us' ∧ us'.toList = us.toList.take (i * n) ++ mid ++ us.toList.drop (i * n + mid.length) ∧ mid.length = ps.length * n ∧ relL e.n (relC w.heap X' e) q.1 mid ∧ q.1.length = ps.length
  | [], vs, i, us, q, hs, hp', he, hb, hl => by
    simp only [relPs] at hp'
    subst hp'
    simp only [mapL, buildElems, Option.some.injEq] at he
    subst he
    exact ⟨us, [], rfl, by simp, by simp, trivial, rfl⟩
  | (k, tv) :: ps, vs, i, us, q, hs, hp', he, hb, hl => by
    simp only [relPs] at hp'
    obtain ⟨v, rest, rfl, h1, h2⟩ := hp'
    simp only [seqP, Bool.and_eq_true] at hs
    have hk := Nat.eq_of_beq_eq_true hs.1
    subst hk
    simp only [mapL, buildElems] at he
    obtain ⟨hsol, he1⟩ := bif_some he
    obtain ⟨p, hp1, he2⟩ := bind_some he1
    obtain ⟨r, hr, rfl⟩ := map_some he2
    simp only [appL_eq] at hb ⊢
    obtain ⟨k1, k2⟩ := solid_rel hsol h1
    obtain ⟨⟨bs, g1, _⟩, g2, _⟩ := outAll_rel H.blk hX hp1 k1 (fun i hi => hb i (by simp [hi]))
    have g1 := (relO_nil _ _ _ _ _ g1).1
    have hvl : v.cells.size = n := by have := relC_length _ _ _ g1; simp at this; omega
    have hlk : k * n + n ≤ us.size := by
      have : (k + 1) * n ≤ (k + (ps.length + 1)) * n := Nat.mul_le_mul_right _ (by omega)
      rw [Nat.succ_mul] at this
      simp at hl
      omega
    have hfold := set_fold v.cells.toList us (k * n) 0 (by simp; omega)
    simp only [Nat.add_zero] at hfold
    have hfsz : ((v.cells.toList.zipIdx 0).foldl (fun (cs : Array Value) (p : Value × Nat) => cs.setIfInBounds (k * n + p.2) p.1) us).size = us.size := by
      rw [← Array.length_toList, hfold]
      simp
      omega
    obtain ⟨us', mid, f1, f2, f3, f4, f5⟩ := fillSeq hn hX ps rest (k + 1) _ r hs.2 h2 hr (fun i hi => hb i (by simp [hi])) (by rw [hfsz]; simp at hl ⊢; rw [show k + 1 + ps.length = k + (ps.length + 1) by omega]; exact hl)
    refine ⟨us', v.cells.toList ++ mid, ?_, ?_, ?_, ⟨?_, ?_, ?_⟩, by simp [f5]⟩
    · unfold Instr.fill
      have c1 : ¬ v.cells.size ≠ n := by omega
      have c2 : ¬ k * n + v.cells.size > us.size := by omega
      simp only [c1, c2, decide_false, Bool.or_self, Bool.false_eq_true, if_false]
      rw [← f1]
      congr 1
      rw [← Array.foldl_toList]
      simp [Array.toList_zipIdx]
    · rw [f2, hfold]
      have e1 : (k + 1) * n = k * n + n := Nat.succ_mul k n
      rw [e1]
      have l1 : (us.toList.take (k * n) ++ v.cells.toList).length = k * n + n := by simp; omega
      rw [List.take_append_of_le_length (by omega), ← l1, List.take_length, List.length_append, List.drop_append, l1]
      have l2 : k * n + n + mid.length - (k * n + n) = mid.length := by omega
      rw [show (us.toList.take (k * n)).length + v.cells.toList.length = k * n + n by rw [← List.length_append]; exact l1]
      rw [List.drop_eq_nil_of_le (by rw [l1]; omega), List.nil_append, l2, List.drop_drop]
      simp [hvl, Nat.add_assoc]
    · simp [f3, hvl, Nat.succ_mul]; omega
    · simp [hvl, hn]
    · rw [List.take_append_of_le_length (by simp [hvl, hn]), List.take_of_length_le (by simp [hvl, hn])]; exact g1
    · have : e.n = v.cells.toList.length := by simp [hvl, hn]
      rw [this, List.drop_left, ← this]
      exact f4

theorem buildSlice_ok {u t len : Nat} {ps : List (Nat × TV)} {e : Eff} (he : effBuildSlice T hp u t len ps = some e) {vs : Array (Nat × Value)} (hv : relPs μ w.heap (XX C μ hp) ps vs.toList) :
    OpOk P C μ hp w (Instr.buildSlice t len vs) e := by
  unfold effBuildSlice at he
  obtain ⟨i, hT, he1⟩ := bind_some he
  clear he
  obtain ⟨info, d, h1, h2, h3, h4, h5, h6⟩ := TOk t i hT
  cases hk : i.kind <;> rw [hk] at he1 h5 <;> simp only at he1 <;> try (cases he1; done)
  rename_i el
  simp only [kindOk] at h5
  subst h5
  obtain ⟨j, hE, he2⟩ := bind_some he1
  clear he1
  obtain ⟨q, hq, he3⟩ := bind_some he2
  clear he2
  obtain ⟨hc, he⟩ := bif_some he3
  clear he3
  simp only [Bool.and_eq_true] at hc
  obtain ⟨⟨⟨⟨⟨⟨c1, c2⟩, c3⟩, c4⟩, c5⟩, c6⟩, c7⟩ := hc
  have hjn : j.ty.n = j.size := Nat.eq_of_beq_eq_true c1
  have hpos : 1 ≤ j.size := Nat.le_of_ble_eq_true c2
  have hlen : ps.length = len := by rw [← lenL_eq]; exact Nat.eq_of_beq_eq_true c4
  have hf := fresh_none TOk H c5
  have hbig : len * j.size ≤ 16777216 := Nat.le_of_ble_eq_true c7
  cases he
  intro _
  obtain ⟨einfo, ed, e1, e2, e3, e4, e5, e6⟩ := TOk el j hE
  obtain ⟨z, hz, hzc⟩ := e6 hjn
  obtain ⟨F1, F2⟩ := free_ok TOk H q.2
  have hrow := buildElems_rowish _ _ hq
  have hnu : rid u ∉ q.2 := by
    intro hm
    have := hrow _ hm
    rw [hf] at this
    cases this
  obtain ⟨us', mid, f1, f2, f3, f4, f5⟩ := fillSeq H (e := j.ty) (n := j.size) hjn (fun b hb => free_sub TOk H (l := q.2) hb) ps vs.toList 0 ((Array.range (len * j.size)).map ((if len * j.size = 0 then #[] else z.cells)[· % (if len * j.size = 0 then #[] else z.cells : Array Value).size]!)) q c3 hv hq (free_bor TOk H hrow) (by simp [hlen])
  have hus : us'.toList = mid := by
    rw [f2]
    simp only [Nat.zero_mul, List.take_zero, List.nil_append, Nat.zero_add]
    rw [List.drop_eq_nil_of_le (by simp [f3, hlen]), List.append_nil]
  have hrun := run_buildSlice (P := P) w t el len vs einfo z h2 e1 hz (by rw [e3]; exact hbig) us' (by rw [e3]; exact f1)
  obtain ⟨m1, m2, m3⟩ := F1.alloc (w' := w.alloc (.cells us' el)) (i := rid u) (L := ⟨some w.heap.size, 0, len, len, j.ty.n⟩) (B := .row j.ty q.1) (o := .cells us' el) (by rw [updAll_frees, if_neg hnu]; exact hf) rfl rfl rfl rfl rfl rfl (by
    intro hM K
    refine ⟨_, upd_self _ _ _, rfl, by show len = _; rw [f5, hlen], Nat.le_refl _, .inr ⟨w.heap.size, us', el, rfl, by show (w.heap.push _)[w.heap.size]? = _; simp, ?_, ?_⟩⟩
    · show 0 + len * j.ty.n ≤ us'.size
      rw [← Array.length_toList, hus, f3, hlen, hjn]; omega
    · simp only [List.drop_zero]
      rw [hus]
      exact relL_imp (fun x cs => relC_mono K _ x cs) _ _ f4)
  refine ⟨_, _, upd μ (rid u) (some ⟨some w.heap.size, 0, len, len, j.ty.n⟩), hrun, ⟨m1, ?_, ?_⟩, ?_⟩
  · simp only [updAll]; rw [updAll_comm_frees _ _ _ _ _ hnu]; exact m2
  · simp only [updAll]; rw [updAll_comm_frees _ _ _ _ _ hnu]; exact F2.trans m3
  · simp only [relV]
    exact ⟨⟨some w.heap.size, 0, len, len, j.ty.n⟩, some ⟨w.heap.size, 0, none⟩, len, upd_self _ _ _, by simp, Nat.zero_le _, by simp, by simp, .inr ⟨w.heap.size, rfl, by simp⟩⟩

end
end Go.VI
set_option linter.unusedVariables false
set_option linter.unusedSimpArgs false
set_option linter.unusedSectionVars false
namespace Go.VI
open Go

section
variable {P : Program} {T : Tab} (TOk : TabOk P T) (EOk : EqOk P T) {C : Ctx} {μ : Nat → Option Loc} {hp : Nat → Blk} {w : World} (H : InvH C μ hp w)
include TOk H

omit TOk H in
theorem readS_take {X : Nat → Prop} {ids : List Nat} {t : Ty} {x : List t.D} {a : Option Addr} (k : Nat) (hr : readS μ w.heap X ids t x a) : readS μ w.heap X ids t (x.take k) a := by
  rcases hr with rfl | ⟨b, off, c, el, fr, h4, h5, h6, h7⟩
  · left; simp
  · exact .inr ⟨b, off, c, el, fr, h4, h5, h6, relL_take k _ _ h7⟩
omit TOk H in
theorem upd_same (hp : Nat → Blk) (id : Nat) (B : Blk) (h : hp id = B) : upd hp id B = hp := by
  funext i
  by_cases e : i = id
  · subst e; rw [upd_self, h]
  · rw [upd_ne _ _ e]

theorem copy_ok {t t' ty : Nat} {d y : TV} {e : Eff} (hft : sizeFits T hp t d = true) (he : effCopy hp d y = some e) {v vy : Value} (hv : relV μ w.heap (XX C μ hp) d v) (hy : relV μ w.heap (XX C μ hp) y vy) :
    OpOk P C μ hp w (Builtin.copy_ #[t, t'] ty #[v, vy]) e := by
  obtain ⟨ti, el, tj, hT, hk, hE, hu, hsz, ok⟩ := sizeFits_ok TOk hft
  unfold effCopy at he
  split at he <;> try (cases he; done)
  rename_i id lo
  split at he <;> try (cases he; done)
  rename_i ety x hh
  obtain ⟨q, hq, rfl⟩ := map_some he
  intro hn
  have hlo : lo ≤ x.length := Nat.le_of_ble_eq_true hn
  obtain ⟨a', c', rfl, hc', hrd⟩ := rowOf_rel H.blk hq hy
  simp only [relV] at hv
  obtain ⟨L, a, c, h1, rfl, h3, h4, h5, h6⟩ := hv
  have hB := H.blk id
  rw [hh] at hB
  obtain ⟨L', k1, k2, k3, k4, k5⟩ := hB
  rw [h1] at k1; cases k1
  have hes : ety.n = tj.size := hsz _ (by simp [elemN, hh])
  have hLs : L.len - lo = x.length - lo := by rw [k3]
  generalize hm : min q.length (x.length - lo) = m at *
  obtain ⟨news, hnl, hnr, hnrun⟩ := first_ok (P := P) (readS_take m hrd)
  have hml : (q.take m).length = m := by simp; omega
  rw [hml] at hnl hnrun
  have hmin : q.length.min (L.len - lo) = m := by rw [hLs]; exact hm
  by_cases hc : c = 0
  · subst hc
    have hm0 : m = 0 := by omega
    subst hm0
    have hnews : news = [] := List.eq_nil_of_length_eq_zero (by omega)
    subst hnews
    have hx : x.take lo ++ q.take 0 ++ x.drop (lo + 0) = x := by simp
    refine ⟨.int .i64 ((0 : Nat) : Int), w, μ, ?_, ?_, val_int⟩
    · have := hnrun w rfl q.length c'
      rw [hes] at this
      cases a <;> simp [Builtin.copy_, run_underlying hu, Builtin.lenOf, run_sizeOf w ok, hmin, this, storeCells, goInt]
    · have e : updAll hp [(id, .row ety (x.take lo ++ q.take 0 ++ x.drop (lo + 0)))] = hp := by
        show upd hp id _ = hp
        rw [hx]
        exact upd_same hp id _ hh
      exact ⟨MuLe.refl _, by rw [e]; exact H, by rw [e]; exact Keeps.refl _ _⟩
  · obtain ⟨b, hb1, rfl⟩ := h6.resolve_left hc
    rcases k5 with ⟨k5, _⟩ | ⟨b', cs, e0, k6, k7, k8, k9⟩
    · rw [hb1] at k5; cases k5
    · rw [hb1] at k6; cases k6
      have hmul : lo * L.n + m * L.n ≤ L.cap * L.n := by rw [← Nat.add_mul]; exact Nat.mul_le_mul_right _ (by omega)
      have hst := run_storeCells_at P b (L.off + lo * L.n) e0 news 0 cs w k7 (by rw [hnl, ← k2]; simp; omega) (relL_ones _ _ hnr (by rw [hnl, hml]))
      simp only [Nat.add_zero] at hst
      obtain ⟨m1, m2⟩ := H.write (w' := w.setRow b (cs.toList.take (L.off + lo * L.n) ++ news ++ cs.toList.drop (L.off + lo * L.n + news.length)).toArray) (i := id) (L := L) (b := b) (B := .row ety (x.take lo ++ q.take m ++ x.drop (lo + m))) (by rw [hh]; rfl) h1 hb1 rfl rfl rfl rfl (by simp)
        (fun b' hb' => setRow_other w b b' _ hb') (by
          intro lo n hpr
          obtain ⟨hlo, cs', hcs', hn⟩ := H.loc id L b lo n (by rw [hh]; rfl) h1 hb1 hpr
          rw [hh] at hcs'
          cases hcs') (by
          intro K
          refine ⟨L, h1, k2, by simp; omega, k4, .inr ⟨b, _, e0, hb1, setRow_heap w b cs _ e0 (0, 0) k7, ?_, ?_⟩⟩
          · rw [hnl, ← k2]
            simp [hnl]
            rw [← k2]
            omega
          · have hs := relL_splice (lo := lo) (relL_imp (fun x cs => relC_mono K _ x cs) _ _ k9) (relL_imp (fun x cs => relC_mono K _ x cs) _ _ hnr) (by rw [hnl, hml]) (by rw [hml]; omega)
            rw [hml] at hs
            have hl9 := relL_length _ _ k9
            have hcs : L.off + lo * L.n ≤ cs.toList.length := by simp; omega
            simp only []
            rw [List.append_assoc, List.drop_append_of_le_length (by rw [List.length_take]; omega), List.drop_take, ← List.append_assoc, Nat.add_sub_cancel_left]
            rw [List.drop_drop] at hs
            have ek : lo * L.n = lo * ety.n := by rw [k2]
            simp only [ek, Nat.add_assoc, List.append_assoc] at hs ⊢
            exact hs)
      refine ⟨.int .i64 (m : Int), _, μ, ?_, ⟨MuLe.refl μ, m1, m2⟩, val_int⟩
      have := hnrun w rfl q.length c'
      rw [hes] at this
      simp [Builtin.copy_, run_underlying hu, Builtin.lenOf, run_sizeOf w ok, hmin, this, hst, goInt]

end
end Go.VI
set_option linter.unusedVariables false
set_option linter.unusedSimpArgs false
set_option linter.unusedSectionVars false
namespace Go.VI
open Go

theorem ofConst_rel {μ : Nat → Option Loc} {h : Array Obj} {X : Nat → Prop} (v : Value) : relV μ h X (ofConst v) v := by
  unfold ofConst
  split <;> simp [relV, relC]

section
variable {P : Program} {T : Tab} (TOk : TabOk P T) (EOk : EqOk P T) {C : Ctx} {μ : Nat → Option Loc} {hp : Nat → Blk} {w : World} (H : InvH C μ hp w)

/-- what is shown of an operation -/
def OperOk (P : Program) (C : Ctx) (μ : Nat → Option Loc) (hp : Nat → Blk) (w : World) (s : Sem Next) (e : Eff) : Prop :=
  e.need = true → ∃ v w' μ', (s.run P w = .ok (.value v) w' ∨ (s.run P w = .ok .skip w' ∧ v = undef)) ∧ StepOk C μ hp w e.sets w' μ' ∧ relV μ' w'.heap (XX C μ' (updAll hp e.sets)) e.val v

theorem OpOk.oper {s : Sem Value} {e : Eff} (h : OpOk P C μ hp w s e) : OperOk P C μ hp w (do pure (.value (← s))) e := by
  intro hn
  obtain ⟨v, w', μ', h1, h2, h3⟩ := h hn
  exact ⟨v, w', μ', .inl (by simp [h1]), h2, h3⟩

theorem relVs_map {ρ : Operand → Value} {ev : Operand → TV} {X : Nat → Prop} : ∀ (l : List Operand), (∀ x ∈ l, relV μ w.heap X (ev x) (ρ x)) → relVs μ w.heap X (mapL ev l) (l.map ρ)
  | [], _ => rfl
  | x :: l, h => by
    simp only [mapL, List.map_cons, relVs]
    exact ⟨_, _, rfl, h x (by simp), relVs_map l fun y hy => h y (by simp [hy])⟩
theorem relPs_map {ρ : Operand → Value} {ev : Operand → TV} {X : Nat → Prop} : ∀ (l : List (Nat × Operand)), (∀ x ∈ l.map (·.2), relV μ w.heap X (ev x) (ρ x)) → relPs μ w.heap X (mapL (fun p => (p.1, ev p.2)) l) (l.map fun p => (p.1, ρ p.2))
  | [], _ => rfl
  | x :: l, h => by
    simp only [mapL, List.map_cons, relPs]
    exact ⟨_, _, rfl, h x.2 (by simp), relPs_map l fun y hy => h y (by simp [hy])⟩
theorem optRel_map {ρ : Operand → Value} {ev : Operand → TV} {X : Nat → Prop} (o : Option Operand) (h : ∀ x ∈ o, relV μ w.heap X (ev x) (ρ x)) : optRel μ w.heap X (o.map ev) (o.map ρ) := by
  cases o with
  | none => trivial
  | some x => exact h x rfl

include TOk H

theorem builtin_ok {u : Nat} {b : Builtin} {ts : Array Nat} {ty : TypeId} {cs : Array Bool} {vs : List TV} {e : Eff} (he : effBuiltin T hp u b ts.toList vs = some e) {us : Array Value} (hv : relVs μ w.heap (XX C μ hp) vs us.toList) :
    OperOk P C μ hp w (builtin b ts ty cs us) e := by
  have one : ∀ {x : TV} {l : List Value}, relVs μ w.heap (XX C μ hp) [x] l → ∃ v, l = [v] ∧ relV μ w.heap (XX C μ hp) x v := by
    intro x l h
    simp only [relVs] at h
    obtain ⟨v, r, rfl, h1, rfl⟩ := h
    exact ⟨v, rfl, h1⟩
  have two : ∀ {x y : TV} {l : List Value}, relVs μ w.heap (XX C μ hp) [x, y] l → ∃ v u, l = [v, u] ∧ relV μ w.heap (XX C μ hp) x v ∧ relV μ w.heap (XX C μ hp) y u := by
    intro x y l h
    simp only [relVs] at h
    obtain ⟨v, r, rfl, h1, v2, r2, rfl, h2, rfl⟩ := h
    exact ⟨v, v2, rfl, h1, h2⟩
  unfold effBuiltin at he
  cases b <;> simp only at he <;> try (cases he; done)
  case len =>
    split at he <;> try (cases he; done)
    rename_i t x hts
    obtain ⟨v, hl, h1⟩ := one hv
    have hts : ts = #[t] := Array.toList_inj.1 (by simpa using hts)
    have hus : us = #[v] := Array.toList_inj.1 (by simpa using hl)
    subst hts; subst hus
    exact (Light.op H (len_ok TOk H.blk he h1)).oper
  case append =>
    split at he <;> try (cases he; done)
    rename_i t t' x y hts
    obtain ⟨v, u, hl, h1, h2⟩ := two hv
    have hts : ts = #[t, t'] := Array.toList_inj.1 (by simpa using hts)
    have hus : us = #[v, u] := Array.toList_inj.1 (by simpa using hl)
    subst hts; subst hus
    cases htt : Nat.beq t t' with
    | true => rw [htt] at he; exact (append_ok TOk H htt he h1 h2).oper
    | false => rw [htt] at he; exact (appendZ_ok TOk H he h1 h2).oper
  case cap =>
    split at he <;> try (cases he; done)
    rename_i t hts
    have hts : ts = #[t] := Array.toList_inj.1 (by simpa using hts)
    subst hts
    obtain ⟨i, hT, he⟩ := bind_some he
    obtain ⟨info, d, h1, h2, h3, h4, h5, h6⟩ := TOk t i hT
    cases hk : i.kind <;> rw [hk] at he h5 <;> simp only at he <;> try (cases he; done)
    simp only [kindOk] at h5
    subst h5
    split at he <;> try (cases he; done)
    · obtain ⟨v, hl, h7⟩ := one hv
      have hus : us = #[v] := Array.toList_inj.1 (by simpa using hl)
      subst hus
      simp only [relV] at h7
      subst h7
      exact (Light.op H (Light.pure he (by simp [Builtin.cap_, run_underlying h2, goInt]) val_int)).oper
    · obtain ⟨v, hl, h7⟩ := one hv
      have hus : us = #[v] := Array.toList_inj.1 (by simpa using hl)
      subst hus
      simp only [relV] at h7
      obtain ⟨a, rfl, _⟩ := h7
      exact (Light.op H (Light.pure he (by simp [Builtin.cap_, run_underlying h2, goInt]) val_int)).oper
  case min =>
    split at he <;> try (cases he; done)
    simp only [relVs] at hv
    obtain ⟨v, r, hl, h1, h2⟩ := hv
    rw [int_val h1] at hl
    refine (Light.op H (Light.behind TOk (min_fold TOk _ _ _ _ _ he h2) fun v hv => ?_)).oper
    simpa [Builtin.min_, hl] using hv
  case max =>
    split at he <;> try (cases he; done)
    simp only [relVs] at hv
    obtain ⟨v, r, hl, h1, h2⟩ := hv
    rw [int_val h1] at hl
    refine (Light.op H (Light.behind TOk (max_fold TOk _ _ _ _ _ he h2) fun v hv => ?_)).oper
    simpa [Builtin.max_, hl] using hv
  case copy =>
    split at he <;> try (cases he; done)
    rename_i t t' x y hts
    obtain ⟨hf, he⟩ := bif_some he
    obtain ⟨v, u, hl, h1, h2⟩ := two hv
    have hts : ts = #[t, t'] := Array.toList_inj.1 (by simpa using hts)
    have hus : us = #[v, u] := Array.toList_inj.1 (by simpa using hl)
    subst hts; subst hus
    exact (copy_ok TOk H hf he h1 h2).oper

include EOk in
theorem opEff_ok {hs : List Nat} {u : Nat} {ev : Operand → TV} {ρ : Operand → Value} {o : Oper} {e : Eff} (hnp : ∀ c a b, o.op ≠ .pick c a b) (hev : ∀ x ∈ o.op.operands.toList, relV μ w.heap (XX C μ hp) (ev x) (ρ x))
    (he : opEff T hs u o.dst ev hp o.op = some e) : OperOk P C μ hp w (execOp ρ o) e := by
  unfold execOp
  cases hop : o.op <;> rw [hop] at he hev hnp <;> simp only [opEff] at he <;> try (cases he; done)
  case move x =>
    cases he
    exact fun _ => ⟨ρ x, w, μ, .inl rfl, ⟨MuLe.refl μ, H, Keeps.refl _ _⟩, hev x (by simp [Op.operands])⟩
  case assign x =>
    cases he
    exact fun _ => ⟨ρ x, w, μ, .inl rfl, ⟨MuLe.refl μ, H, Keeps.refl _ _⟩, hev x (by simp [Op.operands])⟩
  case pick c a b => exact absurd rfl (hnp c a b)
  case alloc t => exact (alloc_ok TOk H he).oper
  case box t x => exact (box_ok TOk H he (hev x (by simp [Op.operands]))).oper
  case build t ps =>
    refine (Light.op H (build_ok TOk he ?_)).oper
    have := relPs_map (μ := μ) (w := w) (X := XX C μ hp) (ρ := ρ) (ev := ev) ps.toList (fun x hx => hev x (by simpa [Op.operands] using hx))
    simpa using this
  case buildSlice t n ps =>
    refine (buildSlice_ok TOk H he ?_).oper
    have := relPs_map (μ := μ) (w := w) (X := XX C μ hp) (ρ := ρ) (ev := ev) ps.toList (fun x hx => hev x (by simpa [Op.operands] using hx))
    simpa using this
  case load t x => exact (Light.op H (load_ok TOk H.blk he (hev x (by simp [Op.operands])))).oper
  case store t x y =>
    intro hn
    obtain ⟨w', μ', h1, h2⟩ := store_ok TOk H he (hev x (by simp [Op.operands])) (hev y (by simp [Op.operands]))
    refine ⟨undef, w', μ', .inr ⟨by simp [h1], rfl⟩, h2, ?_⟩
    have : e.val = .hole := by
      unfold effStore at he
      obtain ⟨i, hT, he1⟩ := bind_some he
      obtain ⟨_, he2⟩ := bif_some he1
      split at he2
      · split at he2 <;> try (cases he2; done)
        obtain ⟨_, he3⟩ := bif_some he2
        cases he3; rfl
      · split at he2 <;> try (cases he2; done)
        obtain ⟨p, _, he3⟩ := bind_some he2
        obtain ⟨_, he4⟩ := bif_some he3
        cases he4; rfl
      · cases he2
    rw [this]
    simp [relV]
  case nilCheck x =>
    have hx := hev x (by simp [Op.operands])
    obtain ⟨h1, h2, h3⟩ := nil_ok he hx
    intro _
    refine ⟨ρ x, w, μ, .inl ?_, ?_, ?_⟩
    · rcases h3 with ⟨a, h3⟩ | ⟨f, vs, h3⟩ <;> simp [h3]
    · rw [h1]; exact ⟨MuLe.refl μ, H, Keeps.refl _ _⟩
    · rw [h1]; exact h2
  case binOp op t x y t2 => exact (Light.op H (bin_ok TOk EOk he (hev x (by simp [Op.operands])) (hev y (by simp [Op.operands])))).oper
  case unOp op t x => exact (Light.op H (un_ok TOk he (hev x (by simp [Op.operands])))).oper
  case convert s d x => exact (Light.op H (conv_ok TOk H.blk he (hev x (by simp [Op.operands])))).oper
  case makeFunc fn first caps =>
    refine (Light.op H (func_ok TOk he ?_ ?_)).oper
    · have := relVs_map (μ := μ) (w := w) (X := XX C μ hp) (ρ := ρ) (ev := ev) first.toList (fun x hx => hev x (by simp [Op.operands]; exact .inl (by simpa using hx)))
      simpa using this
    · have := relVs_map (μ := μ) (w := w) (X := XX C μ hp) (ρ := ρ) (ev := ev) caps.toList (fun x hx => hev x (by simp [Op.operands]; exact .inr (by simpa using hx)))
      simpa using this
  case makeSlice t n c => exact (make_ok TOk H he (hev n (by simp [Op.operands])) (hev c (by simp [Op.operands]))).oper
  case slice t x lo hi mx =>
    obtain ⟨hf, he⟩ := bif_some he
    have h1 := hev x (by simp [Op.operands])
    have h2 := optRel_map (μ := μ) (w := w) (X := XX C μ hp) (ρ := ρ) (ev := ev) lo (fun y hy => hev y (by simp at hy; subst hy; simp [Op.operands]))
    have h3 := optRel_map (μ := μ) (w := w) (X := XX C μ hp) (ρ := ρ) (ev := ev) hi (fun y hy => hev y (by simp at hy; subst hy; simp [Op.operands]))
    have h4 := optRel_map (μ := μ) (w := w) (X := XX C μ hp) (ρ := ρ) (ev := ev) mx (fun y hy => hev y (by simp at hy; subst hy; simp [Op.operands]))
    cases hu : inL u hs with
    | true => rw [hu] at he; exact (trunc_ok TOk H hf he h1 h2 h3 h4).oper
    | false => rw [hu] at he; exact (Light.op H (slice_ok TOk H.blk hf he h1 h2 h3 h4)).oper
  case fieldAddr t x f => exact (Light.op H (field_ok TOk he (hev x (by simp [Op.operands])))).oper
  case indexAddr t x i => exact (Light.op H (indexAddr_ok TOk H.blk he (hev x (by simp [Op.operands])) (hev i (by simp [Op.operands])))).oper
  case index t x i =>
    obtain ⟨k, hT, he⟩ := bind_some he
    split at he <;> try (cases he; done)
    rename_i hk
    exact (Light.op H (index_ok TOk hT hk he (hev x (by simp [Op.operands])) (hev i (by simp [Op.operands])))).oper
  case extract x i => exact (Light.op H (extract_ok TOk he (hev x (by simp [Op.operands])))).oper
  case call c =>
    split at he <;> try (cases he; done)
    rename_i b hb
    have hargs := relVs_map (μ := μ) (w := w) (X := XX C μ hp) (ρ := ρ) (ev := ev) c.args.toList (fun x hx => hev x (by simp [Op.operands, Call.operands, hb]; simpa using hx))
    have key : ∀ cs : Array Bool, OperOk P C μ hp w (builtin b c.argTypes o.type cs (c.args.map ρ)) e := fun cs => builtin_ok TOk H he (by simpa using hargs)
    intro hn
    simp only [resolve, hb, Sem.run_bind, Sem.run_pure, Result.andThen_ok, invoke]
    exact key _ hn

end
end Go.VI
set_option linter.unusedVariables false
set_option linter.unusedSimpArgs false
set_option linter.unusedSectionVars false
namespace Go.VI
open Go

/-! ### values through shapes -/
def relCaps (h : Array Obj) (X : Nat → Prop) : (caps : List (Bool × Ty)) → capsD caps → List Value → Prop
  | [], _, vs => vs = []
  | (true, t) :: l, x, vs => ∃ cs r, vs = .agg cs :: r ∧ relC h X t x.1 cs.toList ∧ relCaps h X l x.2 r
  | (false, t) :: l, x, vs => ∃ v r, vs = v :: r ∧ relC h X t x.1 [v] ∧ relCaps h X l x.2 r

/-- 'pt': where the box of a number lies -/
def relSh (pt : Nat → Option Loc) (h : Array Obj) (X : Nat → Prop) : (s : Sh) → s.D → Value → List Nat → Prop
  | .dat t, x, v, bs => relC h X t x [v] ∧ bs = []
  | .own t, x, v, bs => relOwn h X t x v bs
  | .lent t, x, v, bs => relOwn h X t x v bs
  | .agg t os, x, v, bs => ∃ cs : Array Value, v = .agg cs ∧ relO h X os 0 t x cs.toList bs
  | .box t os, x, v, bs => ∃ b off c el bs', v = .pointer (some ⟨b, off, none⟩) ∧ h[b]? = some (.cells c el (0, 0)) ∧ off + t.n ≤ c.size ∧ relO h X os 0 t x ((c.toList.drop off).take t.n) bs' ∧ bs = b :: bs'
  | .ptr id o, _, v, bs => bs = [] ∧ ∃ L b, pt id = some L ∧ L.blk = some b ∧ v = .pointer (some ⟨b, L.off + o, none⟩)
  | .nil, _, v, bs => v = .slice none 0 0 ∧ bs = []
  | .fn f caps, x, v, bs => bs = [] ∧ ∃ vs : Array Value, v = .func (.func f) #[] vs ∧ relCaps h X caps x vs.toList
def relShs (pt : Nat → Option Loc) (h : Array Obj) (X : Nat → Prop) : (l : List Sh) → ShsD l → List Value → List Nat → Prop
  | [], _, vs, bs => vs = [] ∧ bs = []
  | s :: l, x, vs, bs => ∃ v r b1 b2, vs = v :: r ∧ bs = b1 ++ b2 ∧ relSh pt h X s x.1 v b1 ∧ relShs pt h X l x.2 r b2

/-- the values behind what is lent -/
def lentV : List Sh → List Value → List Value
  | .box _ _ :: l, v :: r => v :: lentV l r
  | .lent _ :: l, v :: r => v :: lentV l r
  | _ :: l, _ :: r => lentV l r
  | _, _ => []

/-- the boxes that are lent: block, first cell, how many -/
def partsV : List Sh → List Value → List (Nat × Nat × Nat)
  | .box t _ :: l, .pointer (some a) :: r => (a.block, a.off, t.n) :: partsV l r
  | _ :: l, _ :: r => partsV l r
  | _, _ => []

def retOf : List Value → Value
  | [v] => v
  | l => .tuple l.toArray

/-- what a function promises -/
structure FnOk (P : Program) (en : En) : Prop where
  enters : ∃ fn, P.funcs[en.f]? = some fn ∧ (fn.name == "runtime.NumGoroutine") = false ∧ fn.body.isNone = false
  fns : ∀ f caps, .fn f caps ∈ en.res → ∀ c ∈ caps, c.1 = false → c.2.n = 1
  noptr : ∀ id o, .ptr id o ∉ en.args
  calls : ∀ (w : World) (X0 : Nat → Prop) (vs : List Value) (bs : List Nat) (x : ShsD en.args) (y : ShsD en.res × ShsD (outsOf en.args)),
    (∀ b, X0 b → b < w.heap.size) → relShs (fun _ => none) w.heap (fun b => X0 b ∨ b ∈ bs) en.args x vs bs → bs.Nodup → (∀ b ∈ bs, ¬ X0 b) → en.F x = some y →
    Calls P en.f vs.toArray w fun ed w' => ∃ (us : List Value) (b1 b2 : List Nat), ed = .returned (retOf us) ∧
      w'.os = w.os ∧ w'.tape = w.tape ∧ w'.output = w.output ∧ w.heap.size ≤ w'.heap.size ∧ (∀ b, b < w.heap.size → b ∉ bs → w'.heap[b]? = w.heap[b]?) ∧
      relShs (fun _ => none) w'.heap (fun b => X0 b ∨ b ∈ b1 ∨ b ∈ b2) en.res y.1 us b1 ∧
      relShs (fun _ => none) w'.heap (fun b => X0 b ∨ b ∈ b1 ∨ b ∈ b2) (outsOf en.args) y.2 (lentV en.args vs) b2 ∧
      (b1 ++ b2).Nodup ∧ (∀ b ∈ b1 ++ b2, ¬ X0 b ∧ (b ∈ bs ∨ w.heap.size ≤ b)) ∧
      (∀ q ∈ partsV en.args vs, SameBut q.2.1 q.2.2 w.heap w'.heap q.1)

section
variable {pt : Nat → Option Loc} {h h' : Array Obj} {X X' : Nat → Prop}
theorem relCaps_mono (K : Keeps h h' X X') : ∀ (caps : List (Bool × Ty)) (x : capsD caps) (vs : List Value), relCaps h X caps x vs → relCaps h' X' caps x vs
  | [], _, vs, hr => hr
  | (true, t) :: l, x, vs, hr => by
    obtain ⟨cs, r, h1, h2, h3⟩ := hr
    exact ⟨cs, r, h1, relC_mono K _ _ _ h2, relCaps_mono K l _ _ h3⟩
  | (false, t) :: l, x, vs, hr => by
    obtain ⟨v, r, h1, h2, h3⟩ := hr
    exact ⟨v, r, h1, relC_mono K _ _ _ h2, relCaps_mono K l _ _ h3⟩
theorem relSh_mono (K : Keeps h h' X X') {s : Sh} {x : s.D} {v : Value} {bs : List Nat} (hb : ∀ b ∈ bs, h'[b]? = h[b]?) (hr : relSh pt h X s x v bs) : relSh pt h' X' s x v bs := by
  cases s <;> simp only [relSh] at *
  case dat t => exact ⟨relC_mono K _ _ _ hr.1, hr.2⟩
  case own t => exact relOwn_mono K hb hr
  case lent t => exact relOwn_mono K hb hr
  case agg t os => obtain ⟨cs, h1, h2⟩ := hr; exact ⟨cs, h1, relO_mono K _ _ _ _ _ hb h2⟩
  case box t os =>
    obtain ⟨b, off, c, el, bs', h1, h2, h3, h4, rfl⟩ := hr
    exact ⟨b, off, c, el, bs', h1, by rw [hb b (by simp)]; exact h2, h3, relO_mono K _ _ _ _ _ (fun b' hm => hb b' (by simp [hm])) h4, rfl⟩
  case ptr id o => exact hr
  case nil => exact hr
  case fn f caps => obtain ⟨h1, vs, h2, h3⟩ := hr; exact ⟨h1, vs, h2, relCaps_mono K _ _ _ h3⟩
theorem relShs_mono (K : Keeps h h' X X') : ∀ (l : List Sh) (x : ShsD l) (vs : List Value) (bs : List Nat), (∀ b ∈ bs, h'[b]? = h[b]?) → relShs pt h X l x vs bs → relShs pt h' X' l x vs bs
  | [], _, _, _, _, hr => hr
  | s :: l, x, vs, bs, hb, hr => by
    obtain ⟨v, r, b1, b2, h1, rfl, h3, h4⟩ := hr
    exact ⟨v, r, b1, b2, h1, rfl, relSh_mono K (fun b hm => hb b (by simp [hm])) h3, relShs_mono K l _ _ _ (fun b hm => hb b (by simp [hm])) h4⟩
end

section
variable {μ : Nat → Option Loc} {h : Array Obj} {X X' : Nat → Prop} {hp : Nat → Blk} (HB : ∀ i, relB μ h X i (hp i))
include HB

theorem outCaps_rel (hX : ∀ b, ¬ X b → ¬ X' b) : ∀ (caps : List (Bool × Ty)) (l : List TV) (p : OutA (capsD caps)), outCaps hp caps l = some p → ∀ vs, relVs μ h X l vs → (∀ i ∈ p.bor, ∀ L b, μ i = some L → L.blk = some b → ¬ X' b) →
    relCaps h X' caps p.x vs ∧ p.own = [] ∧ p.lent = []
  | [], [], p, he, vs, hv, hb => by
    simp only [outCaps, Option.some.injEq] at he
    subst he
    simp only [relVs] at hv
    exact ⟨hv, rfl, rfl⟩
  | [], _ :: _, p, he, vs, hv, hb => by simp [outCaps] at he
  | (true, t) :: l, [], p, he, vs, hv, hb => by simp [outCaps] at he
  | (false, t) :: l, [], p, he, vs, hv, hb => by simp [outCaps] at he
  | (true, t) :: l, tv :: r, p, he, vs, hv, hb => by
    simp only [relVs] at hv
    obtain ⟨v, us, rfl, h1, h2⟩ := hv
    cases tv <;> simp only [outCaps] at he <;> try (cases he; done)
    rename_i cs
    obtain ⟨q, hq, he⟩ := bind_some he
    obtain ⟨z, hz, rfl⟩ := map_some he
    simp only [appL_eq] at hb
    simp only [relV] at h1
    obtain ⟨ws, rfl, h3⟩ := h1
    obtain ⟨⟨bs, g1, g2⟩, _, _⟩ := outAll_rel HB hX hq h3 (fun i hi => hb i (by simp [hi]))
    obtain ⟨k1, k2, k3⟩ := outCaps_rel hX l r z hz us h2 (fun i hi => hb i (by simp [hi]))
    exact ⟨⟨ws, us, rfl, (relO_nil _ _ _ _ _ g1).1, k1⟩, rfl, rfl⟩
  | (false, t) :: l, tv :: r, p, he, vs, hv, hb => by
    simp only [relVs] at hv
    obtain ⟨v, us, rfl, h1, h2⟩ := hv
    simp only [outCaps] at he
    obtain ⟨q, hq, he⟩ := bind_some he
    obtain ⟨z, hz, rfl⟩ := map_some he
    simp only [appL_eq] at hb
    obtain ⟨k1, k2, k3⟩ := outCaps_rel hX l r z hz us h2 (fun i hi => hb i (by simp [hi]))
    exact ⟨⟨v, us, rfl, outCell_rel HB hX hq h1 (fun i hi => hb i (by simp [hi])), k1⟩, rfl, rfl⟩

theorem cells_cut {L : Loc} {cs : List TV} {c : Array Value} {off n : Nat} (hr : relVs μ h X cs ((c.toList.drop L.off).take cs.length)) (hn : off + n ≤ cs.length) :
    relVs μ h X (cut off n cs) ((c.toList.drop (L.off + off)).take n) := by
  have h1 := relVs_take n _ _ (relVs_drop off _ _ hr)
  rw [List.drop_take, List.take_take, List.drop_drop, Nat.min_eq_left (by omega)] at h1
  simpa [cut, takeL_eq, dropL_eq] using h1

theorem outSh_rel (hX : ∀ b, ¬ X b → ¬ X' b) {s : Sh} {tv : TV} {p : OutA s.D} (he : outSh hp s tv = some p) {v : Value} (hv : relV μ h X tv v) (hbor : ∀ i ∈ p.bor, ∀ L b, μ i = some L → L.blk = some b → ¬ X' b) :
    (∃ bs, relSh μ h X' s p.x v bs ∧ List.Sublist bs (blks μ (p.lent ++ p.own))) ∧ (∀ i ∈ p.own, isOwn (hp i) = true) ∧ (∀ i ∈ p.lent, isOwn (hp i) = true) := by
  cases s <;> simp only [outSh] at he
  case dat t =>
    obtain ⟨x, hx, rfl⟩ := map_some he
    exact ⟨⟨[], ⟨outCell_rel HB hX hx hv hbor, rfl⟩, List.nil_sublist _⟩, by simp, by simp⟩
  case own t =>
    obtain ⟨q, hq, rfl⟩ := map_some he
    obtain ⟨k1, k2, k3, bs, k4, k5⟩ := ownCell_rel HB hX hq hv
    exact ⟨⟨bs, k4, by simpa using k5⟩, k3, by simp⟩
  case lent t => cases he
  case agg t os =>
    split at he <;> try (cases he; done)
    obtain ⟨q, hq, rfl⟩ := map_some he
    simp only [relV] at hv
    obtain ⟨vs, rfl, hvs⟩ := hv
    obtain ⟨⟨bs, g1, g2⟩, _, g3⟩ := outAll_rel HB hX hq hvs hbor
    exact ⟨⟨bs, ⟨vs, rfl, g1⟩, by simpa using g2⟩, g3, by simp⟩
  case box t os =>
    split at he <;> try (cases he; done)
    · rename_i id off
      split at he <;> try (cases he; done)
      rename_i cs hh
      obtain ⟨hfit, he⟩ := bif_some he
      have hfit := Nat.le_of_ble_eq_true hfit
      rw [lenL_eq] at hfit
      obtain ⟨q, hq, rfl⟩ := map_some he
      simp only [relV] at hv
      obtain ⟨L, b, k1, k2, rfl⟩ := hv
      have hB := HB id
      rw [hh] at hB
      obtain ⟨L', k3, b', c, el, k4, k5, k6, k7⟩ := hB
      rw [k1] at k3; cases k3
      rw [k2] at k4; cases k4
      obtain ⟨⟨bs, g1, g2⟩, g3, g4⟩ := outAll_rel HB hX hq (cells_cut HB k7 hfit) hbor
      refine ⟨⟨b :: bs, ⟨b, L.off + off, c, el, bs, rfl, k5, by omega, g1, rfl⟩, ?_⟩, g4, by simp [hh, isOwn]⟩
      simp only [blks, List.cons_append, List.nil_append, List.filterMap_cons, k1, Option.bind_some, k2]
      exact List.Sublist.cons_cons _ g2
    · rename_i id k off
      split at he <;> try (cases he; done)
      split at he <;> try (cases he; done)
      rename_i ety x hh
      obtain ⟨hfit, he⟩ := bif_some he
      have hfit := Nat.le_of_ble_eq_true hfit
      obtain ⟨q, hq, rfl⟩ := map_some he
      simp only [relV] at hv
      obtain ⟨L, b, k1, k2, k3, rfl⟩ := hv
      have hB := HB id
      rw [hh] at hB
      obtain ⟨L', k4, k5, k6, k7, k8⟩ := hB
      rw [k1] at k4; cases k4
      rcases k8 with ⟨k8, _⟩ | ⟨b', c, el, k9, k10, k11, k12⟩
      · rw [k2] at k8; cases k8
      rw [k2] at k9; cases k9
      have hget := relL_get _ _ k12 k _ (rd_lt (by omega))
      rw [List.drop_drop] at hget
      have hel : relVs μ h X (cellsOf ety (rd ety x k)) ((c.toList.drop (⟨some b, L.off + k * L.n, 0, 0, 0⟩ : Loc).off).take (cellsOf ety (rd ety x k)).length) := by
        rw [cellsOf_length, k5]
        exact (relVs_cellsOf _ _ _).1 hget.2
      obtain ⟨⟨bs, g1, g2⟩, g3, g4⟩ := outAll_rel HB hX hq (cells_cut HB hel (by rw [cellsOf_length]; exact hfit)) hbor
      have hmul : k * L.n + L.n ≤ L.cap * L.n := by rw [← Nat.succ_mul]; exact Nat.mul_le_mul_right _ (by omega)
      obtain ⟨_, rfl⟩ := relO_nil _ _ _ _ _ g1
      refine ⟨⟨[b], ⟨b, L.off + k * L.n + off, c, el, [], rfl, k10, by omega, ?_, rfl⟩, ?_⟩, by simp, by simp [hh, isOwn]⟩
      · exact g1
      · simp [blks, k1, k2]
  case ptr id o =>
    split at he <;> try (cases he; done)
    obtain ⟨hc, he⟩ := bif_some he
    cases he
    simp only [Bool.and_eq_true] at hc
    cases Nat.eq_of_beq_eq_true hc.1
    cases Nat.eq_of_beq_eq_true hc.2
    simp only [relV] at hv
    exact ⟨⟨[], ⟨rfl, hv⟩, List.nil_sublist _⟩, by simp, by simp⟩
  case nil =>
    split at he <;> try (cases he; done)
    cases he
    simp only [relV] at hv
    exact ⟨⟨[], ⟨hv, rfl⟩, List.nil_sublist _⟩, by simp, by simp⟩
  case fn f caps =>
    split at he <;> try (cases he; done)
    obtain ⟨hc, he'⟩ := bif_some he
    cases Nat.eq_of_beq_eq_true hc
    simp only [relV] at hv
    obtain ⟨vs, rfl, hvs⟩ := hv
    obtain ⟨k1, k2, k3⟩ := outCaps_rel HB hX caps _ p he' _ hvs hbor
    exact ⟨⟨[], ⟨rfl, vs, rfl, k1⟩, List.nil_sublist _⟩, by simp [k2], by simp [k3]⟩

end
end Go.VI
set_option linter.unusedVariables false
set_option linter.unusedSimpArgs false
set_option linter.unusedSectionVars false
namespace Go.VI
open Go

theorem noDup_iff : ∀ l : List Nat, noDup l = true ↔ l.Nodup
  | [] => by simp [noDup]
  | i :: l => by
    simp only [noDup, Bool.and_eq_true, Bool.not_eq_true', List.nodup_cons, noDup_iff l]
    constructor
    · rintro ⟨h1, h2⟩; exact ⟨inL_false h1, h2⟩
    · rintro ⟨h1, h2⟩
      refine ⟨?_, h2⟩
      cases h : inL i l
      · rfl
      · exact absurd (inL_iff.1 h) h1

theorem mem_blks {μ : Nat → Option Loc} {l : List Nat} {b : Nat} : b ∈ blks μ l ↔ ∃ i ∈ l, ∃ L, μ i = some L ∧ L.blk = some b := by
  simp only [blks, List.mem_filterMap]
  constructor
  · rintro ⟨i, hi, h⟩
    cases hm : μ i with
    | none => rw [hm] at h; cases h
    | some L => rw [hm] at h; exact ⟨i, hi, L, hm, h⟩
  · rintro ⟨i, hi, L, h1, h2⟩
    exact ⟨i, hi, by rw [h1]; exact h2⟩
theorem blks_nodup {μ : Nat → Option Loc} : ∀ (l : List Nat), l.Nodup → (∀ i ∈ l, ∀ j ∈ l, ∀ L M b, μ i = some L → μ j = some M → L.blk = some b → M.blk = some b → i = j) → (blks μ l).Nodup
  | [], _, _ => by simp [blks]
  | i :: l, hn, hi => by
    have ih := blks_nodup l (List.nodup_cons.1 hn).2 (fun a ha b hb => hi a (by simp [ha]) b (by simp [hb]))
    cases hm : (μ i).bind (·.blk) with
    | none => simpa [blks, hm] using ih
    | some b =>
      have : blks μ (i :: l) = b :: blks μ l := by simp [blks, hm]
      rw [this, List.nodup_cons]
      refine ⟨fun hb => ?_, ih⟩
      obtain ⟨j, hj, M, h1, h2⟩ := mem_blks.1 hb
      cases hL : μ i with
      | none => rw [hL] at hm; cases hm
      | some L =>
        rw [hL] at hm
        have := hi i (by simp) j (by simp [hj]) L M b hL h1 hm h2
        subst this
        exact (List.nodup_cons.1 hn).1 hj

section
variable {μ : Nat → Option Loc} {h : Array Obj} {X X' : Nat → Prop} {hp : Nat → Blk} (HB : ∀ i, relB μ h X i (hp i))
include HB

theorem outShs_rel (hX : ∀ b, ¬ X b → ¬ X' b) : ∀ (l : List Sh) (tvs : List TV) (p : OutA (ShsD l)), outShs hp l tvs = some p → ∀ vs, relVs μ h X tvs vs → (∀ i ∈ p.bor, ∀ L b, μ i = some L → L.blk = some b → ¬ X' b) →
    (∃ bs ids, relShs μ h X' l p.x vs bs ∧ List.Sublist bs (blks μ ids) ∧ ids.Perm (p.lent ++ p.own)) ∧ (∀ i ∈ p.own, isOwn (hp i) = true) ∧ (∀ i ∈ p.lent, isOwn (hp i) = true)
  | [], [], p, he, vs, hv, hb => by
    simp only [outShs, Option.some.injEq] at he
    subst he
    simp only [relVs] at hv
    exact ⟨⟨[], [], ⟨hv, rfl⟩, List.nil_sublist _, List.Perm.refl _⟩, by simp, by simp⟩
  | [], _ :: _, p, he, vs, hv, hb => by simp [outShs] at he
  | _ :: _, [], p, he, vs, hv, hb => by simp [outShs] at he
  | s :: l, tv :: r, p, he, vs, hv, hb => by
    simp only [relVs] at hv
    obtain ⟨v, us, rfl, h1, h2⟩ := hv
    simp only [outShs] at he
    obtain ⟨q, hq, he⟩ := bind_some he
    obtain ⟨z, hz, rfl⟩ := map_some he
    simp only [appL_eq] at hb ⊢
    obtain ⟨⟨b1, g1, g2⟩, g3, g4⟩ := outSh_rel HB hX hq h1 (fun i hi => hb i (by simp [hi]))
    obtain ⟨⟨b2, ids, k1, k2, k3⟩, k4, k5⟩ := outShs_rel hX l r z hz us h2 (fun i hi => hb i (by simp [hi]))
    refine ⟨⟨b1 ++ b2, (q.lent ++ q.own) ++ ids, ⟨v, us, b1, b2, rfl, rfl, g1, k1⟩, ?_, ?_⟩, ?_, ?_⟩
    · simp only [blks, List.filterMap_append] at *
      exact List.Sublist.append g2 k2
    · have := List.Perm.append_left (q.lent ++ q.own) k3
      refine this.trans ?_
      rw [List.append_assoc, List.append_assoc]
      refine List.Perm.append_left _ ?_
      rw [← List.append_assoc, ← List.append_assoc]
      exact List.Perm.append_right _ List.perm_append_comm
    · intro i hi
      rcases List.mem_append.1 hi with hi | hi
      · exact g3 i hi
      · exact k4 i hi
    · intro i hi
      rcases List.mem_append.1 hi with hi | hi
      · exact g4 i hi
      · exact k5 i hi
end

theorem inCells_length {os : List Nat} {base : Nat} : ∀ (t : Ty) (j : Nat) (x : t.D), (inCells os base j t x).1.length = t.n := by
  intro t
  induction t with
  | pair a b iha ihb => intro j x; simp [inCells, appL_eq, Ty.n, iha, ihb]
  | sl e ih => intro j x; simp only [inCells, inScalar]; cases inL j os <;> simp [Ty.n]
  | _ => intro j x; simp [inCells, inScalar, Ty.n]

theorem inCaps_rel {μ : Nat → Option Loc} {h : Array Obj} {X : Nat → Prop} : ∀ (caps : List (Bool × Ty)) (x : capsD caps) (vs : List Value), (∀ c ∈ caps, c.1 = false → c.2.n = 1) → relCaps h X caps x vs → relVs μ h X (inCaps caps x) vs
  | [], _, vs, _, hr => hr
  | (true, t) :: l, x, vs, hc, hr => by
    obtain ⟨cs, r, rfl, h2, h3⟩ := hr
    simp only [inCaps, relVs]
    refine ⟨_, _, rfl, ?_, inCaps_rel l _ _ (fun c hm => hc c (by simp [hm])) h3⟩
    simp only [relV]
    exact ⟨cs, rfl, (relVs_cellsOf _ _ _).1 h2⟩
  | (false, t) :: l, x, vs, hc, hr => by
    obtain ⟨v, r, rfl, h2, h3⟩ := hr
    simp only [inCaps, appL_eq]
    exact relVs_append _ _ [v] r ((relVs_cellsOf _ _ _).1 h2) (inCaps_rel l _ _ (fun c hm => hc c (by simp [hm])) h3)

/-- a value out of data: where its rows and its box lie -/
theorem inSh_rel {pt : Nat → Option Loc} {h : Array Obj} {X : Nat → Prop} {base : Nat} {s : Sh} {x : s.D} {v : Value} {bs : List Nat} (hr : relSh pt h X s x v bs) (hfn : ∀ f caps, s = .fn f caps → ∀ c ∈ caps, c.1 = false → c.2.n = 1) :
    ∃ locs : List (Nat × Loc), locs.map (·.1) = (inSh base s x).2.map (·.1) ∧ locs.filterMap (·.2.blk) = bs ∧
      (∀ μ : Nat → Option Loc, (∀ q ∈ locs, μ q.1 = some q.2) → (∀ i L, pt i = some L → μ i = some L) → relV μ h X (inSh base s x).1 v ∧ ∀ q ∈ (inSh base s x).2, relB μ h X q.1 q.2 ∧ isOwn q.2 = true) := by
  have own : ∀ (t : Ty) (x : List t.D), relOwn h X t x v bs → ∃ locs : List (Nat × Loc), locs.map (·.1) = [base] ∧ locs.filterMap (·.2.blk) = bs ∧
      (∀ μ : Nat → Option Loc, (∀ q ∈ locs, μ q.1 = some q.2) → relV μ h X (.row base 0) v ∧ relB μ h X base (.row t x)) := by
    intro t x hr
    have hr' : relO h X [0] 0 (.sl t) x [v] bs := by
      simp only [relO]
      rw [if_pos (show inL 0 [0] = true from rfl)]
      exact ⟨v, rfl, hr⟩
    obtain ⟨locs, h1, h2, h3⟩ := inCells_rel (base := base) _ _ _ _ _ hr'
    have e : inCells [0] base 0 (.sl t) x = ([.row (base + 0) 0], [(base + 0, .row t x)]) := rfl
    rw [e] at h1 h3
    refine ⟨locs, h1, h2, fun μ hμ => ?_⟩
    obtain ⟨k1, k2⟩ := h3 μ hμ
    simp only [relVs] at k1
    obtain ⟨v', r, hv, k3, k4⟩ := k1
    simp only [List.cons.injEq] at hv
    obtain ⟨rfl, _⟩ := hv
    refine ⟨k3, ?_⟩
    obtain ⟨e', y, L, k5, k6, k7⟩ := k2 _ (List.mem_singleton.2 rfl)
    simp only [Blk.row.injEq] at k5
    obtain ⟨rfl, k5⟩ := k5
    cases k5
    exact ⟨L, k6, k7⟩
  cases s <;> simp only [relSh] at hr <;> simp only [inSh]
  case dat t =>
    refine ⟨[], rfl, by simp [hr.2], fun μ _ _ => ⟨?_, by simp⟩⟩
    simp only [relV]; exact hr.1
  case own t =>
    obtain ⟨locs, h1, h2, h3⟩ := own t x hr
    exact ⟨locs, h1, h2, fun μ hμ _ => ⟨(h3 μ hμ).1, fun q hq => by simp at hq; subst hq; exact ⟨(h3 μ hμ).2, rfl⟩⟩⟩
  case lent t =>
    obtain ⟨locs, h1, h2, h3⟩ := own t x hr
    exact ⟨locs, h1, h2, fun μ hμ _ => ⟨(h3 μ hμ).1, fun q hq => by simp at hq; subst hq; exact ⟨(h3 μ hμ).2, rfl⟩⟩⟩
  case agg t os =>
    obtain ⟨cs, rfl, hr⟩ := hr
    obtain ⟨locs, h1, h2, h3⟩ := inCells_rel (base := base + 1) _ _ _ _ _ hr
    refine ⟨locs, h1, h2, fun μ hμ _ => ?_⟩
    obtain ⟨k1, k2⟩ := h3 μ hμ
    refine ⟨by simp only [relV]; exact ⟨cs, rfl, k1⟩, fun q hq => ?_⟩
    obtain ⟨e, y, L, k3, k4, k5⟩ := k2 q hq
    rw [k3]
    exact ⟨⟨L, k4, k5⟩, rfl⟩
  case box t os =>
    obtain ⟨b, off, c, el, bs', rfl, hh, hfit, hr, rfl⟩ := hr
    obtain ⟨locs, h1, h2, h3⟩ := inCells_rel (base := base + 1) _ _ _ _ _ hr
    refine ⟨(base, ⟨some b, off, 0, 0, 0⟩) :: locs, by simp [h1], by simp [h2], fun μ hμ _ => ?_⟩
    obtain ⟨k1, k2⟩ := h3 μ (fun q hq => hμ q (by simp [hq]))
    have hb := hμ (base, ⟨some b, off, 0, 0, 0⟩) (by simp)
    refine ⟨by simp only [relV]; exact ⟨_, b, hb, rfl, by simp⟩, fun q hq => ?_⟩
    rcases List.mem_cons.1 hq with rfl | hq
    · refine ⟨⟨_, hb, b, c, el, rfl, hh, ?_, ?_⟩, rfl⟩
      · rw [inCells_length]; exact hfit
      · rw [inCells_length]; exact k1
    · obtain ⟨e, y, L, k3, k4, k5⟩ := k2 q hq
      rw [k3]
      exact ⟨⟨L, k4, k5⟩, rfl⟩
  case ptr id o =>
    obtain ⟨rfl, L, b, k1, k2, rfl⟩ := hr
    refine ⟨[], rfl, rfl, fun μ _ hpt => ⟨?_, by simp⟩⟩
    simp only [relV]
    exact ⟨L, b, hpt _ _ k1, k2, rfl⟩
  case nil =>
    obtain ⟨rfl, rfl⟩ := hr
    exact ⟨[], rfl, rfl, fun μ _ _ => ⟨by simp [relV], by simp⟩⟩
  case fn f caps =>
    obtain ⟨rfl, vs, rfl, k1⟩ := hr
    refine ⟨[], rfl, rfl, fun μ _ _ => ⟨?_, by simp⟩⟩
    simp only [relV]
    exact ⟨vs, rfl, inCaps_rel caps _ _ (hfn f caps rfl) k1⟩

end Go.VI
set_option linter.unusedVariables false
set_option linter.unusedSimpArgs false
set_option linter.unusedSectionVars false
namespace Go.VI
open Go

theorem updAll_append {α : Type} : ∀ (l m : List (Nat × α)) (f : Nat → α), updAll f (l ++ m) = updAll (updAll f l) m
  | [], _, _ => rfl
  | (i, x) :: l, m, f => by simp only [List.cons_append, updAll]; exact updAll_append l m _
theorem updAll_mem {α : Type} : ∀ (l : List (Nat × α)) (f : Nat → α), (l.map (·.1)).Nodup → ∀ i x, (i, x) ∈ l → updAll f l i = x
  | [], _, _, _, _, h => by cases h
  | (k, y) :: l, f, hn, i, x, h => by
    simp only [List.map_cons, List.nodup_cons] at hn
    rcases List.mem_cons.1 h with h | h
    · cases h
      rw [updAll, updAll_of_not_mem l _ _ hn.1, upd_self]
    · exact updAll_mem l _ hn.2 i x h
theorem updAll_kills : ∀ (l : List Nat) (f : Nat → Blk) (i : Nat), updAll f (kills l) i = if i ∈ l then .dead else f i
  | [], f, i => by simp [kills, mapL, updAll]
  | k :: l, f, i => by
    have ih := updAll_kills l (upd f k .dead) i
    simp only [kills, mapL] at *
    rw [updAll, ih]
    by_cases h1 : i ∈ l
    · simp [h1]
    · by_cases h2 : i = k
      · subst h2; simp [upd_self]
      · rw [upd_ne _ _ h2]; simp [h1, h2]

/-! shapes in which nothing is shared say the same whatever must not be touched -/
theorem relC_noSl {h : Array Obj} {X X' : Nat → Prop} : ∀ (t : Ty), noSl t = true → ∀ (x : t.D) (cs : List Value), relC h X t x cs → relC h X' t x cs := by
  intro t
  induction t with
  | pair a b iha ihb =>
    intro hn x cs hr
    simp only [noSl, Bool.and_eq_true] at hn
    exact ⟨iha hn.1 _ _ hr.1, ihb hn.2 _ _ hr.2⟩
  | sl e ih => intro hn; simp [noSl] at hn
  | int k => intro _ x cs hr; exact hr
  | bool => intro _ x cs hr; exact hr
  | str => intro _ x cs hr; exact hr
  | unit => intro _ x cs hr; exact hr
theorem relOwn_noSl {h : Array Obj} {X X' : Nat → Prop} {t : Ty} (hn : noSl t = true) {x : List t.D} {v : Value} {bs : List Nat} (hr : relOwn h X t x v bs) : relOwn h X' t x v bs := by
  obtain ⟨a, cap, h1, h2, h3⟩ := hr
  refine ⟨a, cap, h1, h2, ?_⟩
  rcases h3 with h3 | ⟨b, off, c, el, h4, h5, h6, h7, h8⟩
  · exact .inl h3
  · exact .inr ⟨b, off, c, el, h4, h5, h6, h7, relL_imp (fun x cs => relC_noSl t hn x cs) _ _ h8⟩
theorem relO_tight {h : Array Obj} {X X' : Nat → Prop} {os : List Nat} : ∀ (t : Ty) (j : Nat), tightCells os j t = true → ∀ (x : t.D) (cs : List Value) (bs : List Nat), relO h X os j t x cs bs → relO h X' os j t x cs bs := by
  intro t
  induction t with
  | pair a b iha ihb =>
    intro j hn x cs bs hr
    simp only [tightCells, Bool.and_eq_true] at hn
    obtain ⟨b1, b2, h1, h2, h3⟩ := hr
    exact ⟨b1, b2, h1, iha _ hn.1 _ _ _ h2, ihb _ hn.2 _ _ _ h3⟩
  | sl e ih =>
    intro j hn x cs bs hr
    simp only [tightCells, Bool.and_eq_true] at hn
    simp only [relO, hn.1, if_true] at *
    obtain ⟨v, h1, h2⟩ := hr
    exact ⟨v, h1, relOwn_noSl hn.2 h2⟩
  | int k => intro j _ x cs bs hr; exact hr
  | bool => intro j _ x cs bs hr; exact hr
  | str => intro j _ x cs bs hr; exact hr
  | unit => intro j _ x cs bs hr; exact hr
theorem relSh_tight {pt : Nat → Option Loc} {h : Array Obj} {X X' : Nat → Prop} {s : Sh} (ht : tight s = true) {x : s.D} {v : Value} {bs : List Nat} (hr : relSh pt h X s x v bs) : relSh pt h X' s x v bs := by
  cases s <;> simp only [tight] at ht <;> simp only [relSh] at * <;> try (cases ht; done)
  case dat t => exact ⟨relC_noSl t ht _ _ hr.1, hr.2⟩
  case own t => exact relOwn_noSl ht hr
  case lent t => exact relOwn_noSl ht hr
  case agg t os => obtain ⟨cs, h1, h2⟩ := hr; exact ⟨cs, h1, relO_tight t 0 ht _ _ _ h2⟩
  case box t os =>
    obtain ⟨b, off, c, el, bs', h1, h2, h3, h4, h5⟩ := hr
    exact ⟨b, off, c, el, bs', h1, h2, h3, relO_tight t 0 ht _ _ _ h4, h5⟩
theorem relShs_tight {pt : Nat → Option Loc} {h : Array Obj} {X X' : Nat → Prop} : ∀ (l : List Sh), allL tight l = true → ∀ (x : ShsD l) (vs : List Value) (bs : List Nat), relShs pt h X l x vs bs → relShs pt h X' l x vs bs
  | [], _, _, _, _, hr => hr
  | s :: l, ht, x, vs, bs, hr => by
    simp only [allL, Bool.and_eq_true] at ht
    obtain ⟨v, r, b1, b2, h1, h2, h3, h4⟩ := hr
    exact ⟨v, r, b1, b2, h1, h2, relSh_tight ht.1 h3, relShs_tight l ht.2 _ _ _ h4⟩

end Go.VI
set_option linter.unusedVariables false
set_option linter.unusedSimpArgs false
set_option linter.unusedSectionVars false
namespace Go.VI
open Go

def Agree (h h' : Nat → Blk) (l : List Nat) : Prop := ∀ i ∈ l, h' i = h i
theorem Agree.left {h h' : Nat → Blk} {l m : List Nat} (a : Agree h h' (l ++ m)) : Agree h h' l := fun i hi => a i (by simp [hi])
theorem Agree.right {h h' : Nat → Blk} {l m : List Nat} (a : Agree h h' (l ++ m)) : Agree h h' m := fun i hi => a i (by simp [hi])

section
variable {h h' : Nat → Blk}
theorem rowOf_local {t : Ty} {v : TV} (a : Agree h h' (rowsIn v)) : rowOf t h' v = rowOf t h v := by
  cases v <;> simp only [rowOf]
  case row id lo => rw [a id (by simp [rowsIn])]
  case sub id lo hi => rw [a id (by simp [rowsIn])]
  case dat u x => cases u <;> rfl
theorem outCell_local {t : Ty} {v : TV} (a : Agree h h' (rowsIn v)) : outCell h' t v = outCell h t v := by
  cases t <;> simp only [outCell]
  case sl e => exact rowOf_local a
  all_goals cases v <;> rfl
theorem ownCell_local {e : Ty} {rest : List TV} {v : TV} {p : Out (List e.D)} (he : ownCell h e rest v = some p) (a : Agree h h' p.own) : ownCell h' e rest v = some p := by
  cases v <;> simp only [ownCell] at he ⊢ <;> try (cases he; done)
  case row id lo =>
    split at he <;> try (cases he; done)
    rename_i u x hh
    have hid : p.own = [id] := by obtain ⟨y, _, rfl⟩ := map_some he; rfl
    rw [a id (by simp [hid]), hh]
    exact he
  case nilS => exact he
theorem outScalar_local {os : List Nat} {j : Nat} {t : Ty} {cs : List TV} {p : Out t.D} (he : outScalar h os j t cs = some p) (a : Agree h h' (p.own ++ p.bor)) : outScalar h' os j t cs = some p := by
  cases cs with
  | nil => cases he
  | cons v r =>
    unfold outScalar at *
    cases t <;> simp only at he ⊢
    case sl e =>
      cases hj : inL j os with
      | true => rw [hj] at he; exact ownCell_local he a.left
      | false =>
        rw [hj] at he
        simp only [cond_false] at he ⊢
        have hb : p.bor = rowsIn v := by obtain ⟨x, _, rfl⟩ := map_some he; rfl
        rw [outCell_local (fun i hi => a i (by simp [hb, hi]))]
        exact he
    all_goals
      obtain ⟨x, hx, rfl⟩ := map_some he
      have : outCell h' _ v = some x := by
        rw [← hx]
        cases v <;> simp [outCell]
      rw [this]
      rfl
theorem outCells_local {os : List Nat} : ∀ (t : Ty) (j : Nat) (cs : List TV) (p : Out t.D), outCells h os j t cs = some p → Agree h h' (p.own ++ p.bor) → outCells h' os j t cs = some p := by
  intro t
  induction t with
  | pair a b iha ihb =>
    intro j cs p he ag
    simp only [outCells] at he ⊢
    obtain ⟨q, hq, he⟩ := bind_some he
    obtain ⟨r, hr, rfl⟩ := map_some he
    simp only [appL_eq] at ag
    rw [iha _ _ _ hq (fun i hi => ag i (by simp at hi ⊢; rcases hi with hi | hi <;> simp [hi]))]
    simp only [Option.bind_some]
    rw [ihb _ _ _ hr (fun i hi => ag i (by simp at hi ⊢; rcases hi with hi | hi <;> simp [hi]))]
    rfl
  | unit => intro j cs p he ag; simpa [outCells] using he
  | int k => intro j cs p he ag; exact outScalar_local he ag
  | bool => intro j cs p he ag; exact outScalar_local he ag
  | str => intro j cs p he ag; exact outScalar_local he ag
  | sl e ih => intro j cs p he ag; exact outScalar_local he ag
theorem outAll_local {os : List Nat} {t : Ty} {cs : List TV} {p : Out t.D} (he : outAll h os t cs = some p) (a : Agree h h' (p.own ++ p.bor)) : outAll h' os t cs = some p := by
  unfold outAll at *
  obtain ⟨q, hq, he⟩ := bind_some he
  split at he <;> try (cases he; done)
  rename_i hr
  cases he
  rw [outCells_local _ _ _ _ hq a]
  simp only [Option.bind_some, hr]
end
end Go.VI
set_option linter.unusedVariables false
set_option linter.unusedSimpArgs false
set_option linter.unusedSectionVars false
namespace Go.VI
open Go

def isDat : TV → Prop
  | .dat _ _ => True
  | _ => False
theorem cellsOf_dat : ∀ (t : Ty) (x : t.D), ∀ c ∈ cellsOf t x, isDat c := by
  intro t
  induction t with
  | pair a b iha ihb =>
    intro x c hc
    simp only [cellsOf, appL_eq, List.mem_append] at hc
    rcases hc with hc | hc
    · exact iha _ c hc
    · exact ihb _ c hc
  | unit => intro x c hc; simp [cellsOf] at hc
  | int k => intro x c hc; simp [cellsOf] at hc; subst hc; trivial
  | bool => intro x c hc; simp [cellsOf] at hc; subst hc; trivial
  | str => intro x c hc; simp [cellsOf] at hc; subst hc; trivial
  | sl e ih => intro x c hc; simp [cellsOf] at hc; subst hc; trivial
theorem spliceL_mem {α : Type} : ∀ (l : List α) (k : Nat) (ys : List α) (c : α), c ∈ spliceL l k ys → c ∈ l ∨ c ∈ ys
  | [], 0, [], c, h => by simp [spliceL] at h
  | x :: l, 0, [], c, h => by simp only [spliceL] at h; exact .inl h
  | x :: l, 0, y :: ys, c, h => by
    simp only [spliceL] at h
    rcases List.mem_cons.1 h with h | h
    · exact .inr (by simp [h])
    · rcases spliceL_mem l 0 ys c h with h | h
      · exact .inl (by simp [h])
      · exact .inr (by simp [h])
  | [], 0, _ :: _, c, h => by simp [spliceL] at h
  | [], k + 1, ys, c, h => by simp [spliceL] at h
  | x :: l, k + 1, ys, c, h => by
    simp only [spliceL] at h
    rcases List.mem_cons.1 h with h | h
    · exact .inl (by simp [h])
    · rcases spliceL_mem l k ys c h with h | h
      · exact .inl (by simp [h])
      · exact .inr h
theorem outCells_dats {h : Nat → Blk} : ∀ (t : Ty) (j : Nat) (cs : List TV) (p : Out t.D), (∀ c ∈ cs, isDat c) → outCells h [] j t cs = some p → p.own = [] ∧ p.bor = [] ∧ ∀ c ∈ p.rest, isDat c := by
  have leaf : ∀ (t : Ty) (j : Nat) (cs : List TV) (p : Out t.D), (∀ c ∈ cs, isDat c) → outScalar h [] j t cs = some p → p.own = [] ∧ p.bor = [] ∧ ∀ c ∈ p.rest, isDat c := by
    intro t j cs p hd he
    cases cs with
    | nil => cases he
    | cons v r =>
      have hv := hd v (by simp)
      have hr : ∀ c ∈ r, isDat c := fun c hc => hd c (by simp [hc])
      unfold outScalar at he
      cases t <;> simp only [inL_nil, cond_false] at he
      case sl e =>
        obtain ⟨x, hx, rfl⟩ := map_some he
        refine ⟨rfl, ?_, hr⟩
        cases v <;> simp only [isDat] at hv <;> first | rfl | exact absurd hv id
      all_goals
        obtain ⟨x, hx, rfl⟩ := map_some he
        exact ⟨rfl, rfl, hr⟩
  intro t
  induction t with
  | pair a b iha ihb =>
    intro j cs p hd he
    simp only [outCells] at he
    obtain ⟨q, hq, he⟩ := bind_some he
    obtain ⟨r, hr, rfl⟩ := map_some he
    obtain ⟨h1, h2, h3⟩ := iha _ _ _ hd hq
    obtain ⟨h4, h5, h6⟩ := ihb _ _ _ h3 hr
    exact ⟨by simp [appL_eq, h1, h4], by simp [appL_eq, h2, h5], h6⟩
  | unit => intro j cs p hd he; simp only [outCells, Option.some.injEq] at he; subst he; exact ⟨rfl, rfl, hd⟩
  | int k => intro j cs p hd he; exact leaf _ _ _ _ hd he
  | bool => intro j cs p hd he; exact leaf _ _ _ _ hd he
  | str => intro j cs p hd he; exact leaf _ _ _ _ hd he
  | sl e ih => intro j cs p hd he; exact leaf _ _ _ _ hd he
/-- cells of data alone, as data: in any heap -/
theorem outAll_dats {hp : Nat → Blk} {t : Ty} {cs : List TV} {p : Out t.D} (hd : ∀ c ∈ cs, isDat c) (he : outAll hp [] t cs = some p) {μ : Nat → Option Loc} {h : Array Obj} {X : Nat → Prop} {vs : List Value} (hv : relVs μ h X cs vs) :
    relC h X t p.x vs := by
  have h1 : p.own = [] ∧ p.bor = [] := by
    unfold outAll at he
    obtain ⟨q, hq, he'⟩ := bind_some he
    split at he' <;> try (cases he'; done)
    cases he'
    exact ⟨(outCells_dats _ _ _ _ hd hq).1, (outCells_dats _ _ _ _ hd hq).2.1⟩
  have he2 : outAll (fun _ => Blk.dead) [] t cs = some p := outAll_local he (by simp [h1.1, h1.2, Agree])
  obtain ⟨⟨bs, g1, _⟩, _, _⟩ := outAll_rel (hp := fun _ => Blk.dead) (μ := μ) (h := h) (X := X) (X' := X) (fun i => trivial) (fun b hb => hb) he2 hv (by simp [h1.2])
  exact (relO_nil _ _ _ _ _ g1).1


/-- a block's cells, of which a part was turned -/
theorem part_cells {c c' : Array Value} {a k m n : Nat} (hs : c'.size = c.size) (he : ∀ j, (j < a + k ∨ a + k + m ≤ j) → c'[j]? = c[j]?) (hk : k + m ≤ n) (hn : a + n ≤ c.size) :
    (c'.toList.drop a).take n = ((c.toList.drop a).take n).take k ++ (c'.toList.drop (a + k)).take m ++ ((c.toList.drop a).take n).drop (k + m) := by
  apply List.ext_getElem?
  intro i
  simp only [List.append_assoc, List.getElem?_append, List.length_take, List.getElem?_take, List.getElem?_drop, List.length_drop, Array.length_toList, Array.getElem?_toList]
  have m1 : min k (min n (c.size - a)) = k := by omega
  have m2 : min m (c'.size - (a + k)) = m := by omega
  rw [m1, m2]
  by_cases h1 : i < k
  · have h2 : i < n := by omega
    simp only [h1, h2, if_true]
    exact he _ (by omega)
  · simp only [h1, if_false]
    by_cases h2 : i - k < m
    · have h3 : i < n := by omega
      simp only [h2, h3, if_true]
      congr 1
      omega
    · simp only [h2, if_false]
      by_cases h3 : i < n
      · have h4 : k + m + (i - k - m) < n := by omega
        simp only [h3, h4, if_true]
        rw [show a + (k + m + (i - k - m)) = a + i by omega]
        exact he _ (by omega)
      · have h4 : ¬ k + m + (i - k - m) < n := by omega
        simp only [h3, h4, if_false]

end Go.VI
set_option linter.unusedVariables false
set_option linter.unusedSimpArgs false
set_option linter.unusedSectionVars false
namespace Go.VI
open Go

theorem blks_locs {μ : Nat → Option Loc} : ∀ (locs : List (Nat × Loc)), (∀ q ∈ locs, μ q.1 = some q.2) → blks μ (locs.map (·.1)) = locs.filterMap (·.2.blk)
  | [], _ => rfl
  | q :: l, h => by
    have ih := blks_locs l (fun x hx => h x (by simp [hx]))
    simp only [blks] at ih
    simp only [blks, List.map_cons, List.filterMap_cons, h q (by simp), Option.bind_some]
    rw [ih]

section
variable {μ : Nat → Option Loc} {h h' : Array Obj} {X XR XF : Nat → Prop} {hp : Nat → Blk} (HB : ∀ i, relB μ h X i (hp i)) (Kold : Keeps h h' X XF) (KR : Keeps h' h' XR XF)
include HB Kold KR

/-- one box -/
theorem backBox_rel {base : Nat} {t : Ty} {os : List Nat} {tv : TV} {v : Value} (hv : relV μ h X tv v) {p : OutA (Sh.box t os).D} (ho : outSh hp (.box t os) tv = some p) {y : t.D} {b2 : List Nat}
    (hr : relSh (fun _ => none) h' XR (.box t os) y v b2) (hpart : ∀ a, v = .pointer (some a) → SameBut a.off t.n h h' a.block) {b : List (Nat × Blk)} (he : backBox hp base t os y tv = some b) :
    ∃ locs : List (Nat × Loc), b.map (·.1) = p.lent ++ locs.map (·.1) ∧
      ∀ μ' : Nat → Option Loc, MuLe μ μ' → (∀ q ∈ locs, μ' q.1 = some q.2) → blks μ' (b.map (·.1)) = b2 ∧
        ∀ q ∈ b, relB μ' h' XF q.1 q.2 ∧ isOwn q.2 = true ∧ (q.1 ∈ locs.map (·.1) ∨ ∀ cs, hp q.1 = .box cs → ∃ cs', q.2 = .box cs' ∧ cs'.length = cs.length) := by
  obtain ⟨b0, off0, c', el', bs', rfl, hh', hfit', hr, rfl⟩ := hr
  have hsame := hpart _ rfl
  simp only at hsame
  cases tv <;> simp only [backBox] at he <;> try (cases he; done)
  case ptr id off =>
    simp only [outSh] at ho
    cases hh : hp id <;> rw [hh] at he ho <;> simp only at he ho <;> try (cases he; done)
    rename_i cs
    obtain ⟨hfit, ho⟩ := bif_some ho
    have hfit := Nat.le_of_ble_eq_true hfit
    rw [lenL_eq] at hfit
    obtain ⟨q0, hq0, rfl⟩ := map_some ho
    cases he
    simp only [relV] at hv
    obtain ⟨L, b, k1, k2, hv⟩ := hv
    simp only [Value.pointer.injEq, Option.some.injEq, Addr.mk.injEq] at hv
    obtain ⟨rfl, rfl, _⟩ := hv
    have hB := HB id
    rw [hh] at hB
    obtain ⟨L', k3, b', c, el, k4, k5, k6, k7⟩ := hB
    rw [k1] at k3; cases k3
    rw [k2] at k4; cases k4
    obtain ⟨locs, l1, l2, l3⟩ := inCells_rel (base := base) _ _ _ _ _ hr
    obtain ⟨c2, s1, s2, s3⟩ := hsame c el (0, 0) k5
    rw [hh'] at s1; cases s1
    refine ⟨locs, by simp [l1], fun μ' hM hl => ?_⟩
    obtain ⟨r1, r2⟩ := l3 μ' hl
    have hid : μ' id = some L := hM _ _ k1
    refine ⟨?_, ?_⟩
    · have : blks μ' (locs.map (·.1)) = bs' := by rw [blks_locs locs hl, l2]
      simp only [List.map_cons, blks, List.filterMap_cons, hid, Option.bind_some, k2]
      rw [← l1]
      simp only [blks] at this
      rw [this]
    · intro q hq
      rcases List.mem_cons.1 hq with rfl | hq
      · refine ⟨⟨L, hid, _, c', _, k2, hh', ?_, ?_⟩, rfl, .inr fun cs' hc => ?_⟩
        · rw [spliceL_length, s2]; exact k6
        · rw [spliceL_length]
          have hs := relVs_splice cs off _ _ _ (relVs_mono hM Kold _ _ k7) (relVs_mono (MuLe.refl μ') KR _ _ r1) (by rw [inCells_length]; exact hfit)
          have hlen : ((c'.toList.drop (L.off + off)).take t.n).length = t.n := by simp; omega
          rw [hlen] at hs
          rw [part_cells s2 (fun j hj => s3 j hj) hfit k6]
          exact hs
        · rw [hh] at hc; cases hc
          exact ⟨_, rfl, spliceL_length _ _ _⟩
      · obtain ⟨e, z, M, r3, r4, r5⟩ := r2 q hq
        rw [r3]
        exact ⟨⟨M, r4, relR_mono KR (fun _ _ => rfl) r5⟩, rfl, .inl (by rw [l1]; exact List.mem_map_of_mem hq)⟩
  case eptr id k off =>
    simp only [outSh] at ho
    split at ho <;> try (cases ho; done)
    cases hh : hp id <;> rw [hh] at he ho <;> simp only at he ho <;> try (cases he; done)
    rename_i ety x
    obtain ⟨hfit, ho⟩ := bif_some ho
    have hfit := Nat.le_of_ble_eq_true hfit
    obtain ⟨q0, hq0, rfl⟩ := map_some ho
    obtain ⟨q, hq, rfl⟩ := map_some he
    simp only [relV] at hv
    obtain ⟨L, b, k1, k2, kk, hv⟩ := hv
    simp only [Value.pointer.injEq, Option.some.injEq, Addr.mk.injEq] at hv
    obtain ⟨rfl, rfl, _⟩ := hv
    have hB := HB id
    rw [hh] at hB
    obtain ⟨L', k4, k5, k6, k7, k8⟩ := hB
    rw [k1] at k4; cases k4
    rcases k8 with ⟨k8, _⟩ | ⟨b', c, el, k9, k10, k11, k12⟩
    · rw [k2] at k8; cases k8
    rw [k2] at k9; cases k9
    obtain ⟨c2, s1, s2, s3⟩ := hsame c el (0, 0) k10
    rw [hh'] at s1; cases s1
    obtain ⟨hr1, rfl⟩ := relO_nil _ _ _ _ _ hr
    have hmul : k * L.n + L.n ≤ L.cap * L.n := by rw [← Nat.succ_mul]; exact Nat.mul_le_mul_right _ (by omega)
    have helem := relL_get _ _ k12 k _ (rd_lt (by omega))
    rw [List.drop_drop, ← k5] at helem
    have e1 := (relVs_cellsOf (μ := fun _ => none) _ _ _).1 (relC_mono Kold _ _ _ helem.2)
    have e2 := (relVs_cellsOf (μ := fun _ => none) _ _ _).1 (relC_mono KR _ _ _ hr1)
    have hs := relVs_splice _ off _ _ _ e1 e2 (by rw [cellsOf_length, cellsOf_length]; exact hfit)
    have hlen : ((c'.toList.drop (L.off + k * L.n + off)).take t.n).length = t.n := by simp; omega
    rw [hlen, ← part_cells s2 (fun j hj => s3 j hj) (by rw [k5]; exact hfit) (by omega)] at hs
    have hd := outAll_dats (fun c hc => (spliceL_mem _ _ _ c hc).elim (cellsOf_dat _ _ c) (cellsOf_dat _ _ c)) hq hs
    refine ⟨[], rfl, fun μ' hM hl => ?_⟩
    have hid : μ' id = some L := hM _ _ k1
    refine ⟨by simp [blks, hid, k2], fun q' hq' => ?_⟩
    simp only [List.mem_singleton] at hq'
    subst hq'
    refine ⟨⟨L, hid, k5, by simpa using k6, k7, .inr ⟨_, c', _, k2, hh', by rw [s2]; exact k11, ?_⟩⟩, rfl, .inr fun cs hc => by rw [hh] at hc; cases hc⟩
    have hset := relL_set x (c.toList.drop L.off) k q.x _ (relL_imp (fun x cs => relC_mono Kold _ x cs) _ _ k12) (by omega) (relC_length _ _ _ hd) hd
    have hc : c'.toList.drop L.off = (c.toList.drop L.off).take (k * ety.n) ++ (c'.toList.drop (L.off + k * L.n)).take L.n ++ (c.toList.drop L.off).drop (k * ety.n + ety.n) := by
      rw [← k5]
      have := part_cells (c := c) (c' := c') (a := L.off) (k := k * L.n) (m := L.n) (n := c.size - L.off) s2 (fun j hj => s3 j (by rcases hj with hj | hj; exact .inl (by omega); exact .inr (by omega))) (by omega) (by omega)
      have e3 : (c.toList.drop L.off).take (c.size - L.off) = c.toList.drop L.off := List.take_of_length_le (by simp)
      have e4 : (c'.toList.drop L.off).take (c.size - L.off) = c'.toList.drop L.off := List.take_of_length_le (by simp [s2])
      rwa [e3, e4] at this
    rw [hc]
    exact hset

end
end Go.VI
set_option linter.unusedVariables false
set_option linter.unusedSimpArgs false
set_option linter.unusedSectionVars false
namespace Go.VI
open Go

section
variable {μ : Nat → Option Loc} {h h' : Array Obj} {X XR XF : Nat → Prop} {hp : Nat → Blk} (HB : ∀ i, relB μ h X i (hp i)) (Kold : Keeps h h' X XF) (KR : Keeps h' h' XR XF)
include HB Kold KR

theorem backs_rel : ∀ (l : List Sh) (base : Nat) (tvs : List TV) (vs : List Value) (p : OutA (ShsD l)) (y : ShsD (outsOf l)) (b2 : List Nat) (b : List (Nat × Blk)),
    outShs hp l tvs = some p → relVs μ h X tvs vs → relShs (fun _ => none) h' XR (outsOf l) y (lentV l vs) b2 → backs hp base l tvs y = some b → (∀ q ∈ partsV l vs, SameBut q.2.1 q.2.2 h h' q.1) →
    ∃ locs : List (Nat × Loc), (b.map (·.1)).Perm (p.lent ++ locs.map (·.1)) ∧
      ∀ μ' : Nat → Option Loc, MuLe μ μ' → (∀ q ∈ locs, μ' q.1 = some q.2) → blks μ' (b.map (·.1)) = b2 ∧
        ∀ q ∈ b, relB μ' h' XF q.1 q.2 ∧ isOwn q.2 = true ∧ (q.1 ∈ locs.map (·.1) ∨ ∀ cs, hp q.1 = .box cs → ∃ cs', q.2 = .box cs' ∧ cs'.length = cs.length)
  | [], base, [], vs, p, y, b2, b, ho, hv, hr, hb, hpt => by
    simp only [outShs, Option.some.injEq] at ho
    subst ho
    simp only [backs, Option.some.injEq] at hb
    subst hb
    obtain ⟨_, rfl⟩ := hr
    exact ⟨[], by simp, fun μ' _ _ => ⟨rfl, by simp⟩⟩
  | [], _, _ :: _, _, _, _, _, _, ho, _, _, _, _ => by simp [outShs] at ho
  | _ :: _, _, [], _, _, _, _, _, ho, _, _, _, _ => by simp [outShs] at ho
  | s :: l, base, tv :: r, vs, p, y, b2, b, ho, hv, hr, hb, hpt => by
    simp only [relVs] at hv
    obtain ⟨v, us, rfl, h1, h2⟩ := hv
    simp only [outShs] at ho
    obtain ⟨q0, hq0, ho1⟩ := bind_some ho
    obtain ⟨z, hz, rfl⟩ := map_some ho1
    have skip : ∀ (e1 : outsOf (s :: l) = outsOf l) (e2 : lentV (s :: l) (v :: us) = lentV l us) (e3 : ∀ q ∈ partsV l us, q ∈ partsV (s :: l) (v :: us)) (e4 : q0.lent = [])
        (y' : ShsD (outsOf l)) (hr' : relShs (fun _ => none) h' XR (outsOf l) y' (lentV l us) b2) (hb' : backs hp (base + 100) l r y' = some b),
        ∃ locs : List (Nat × Loc), (b.map (·.1)).Perm (appL q0.lent z.lent ++ locs.map (·.1)) ∧
          ∀ μ' : Nat → Option Loc, MuLe μ μ' → (∀ q ∈ locs, μ' q.1 = some q.2) → blks μ' (b.map (·.1)) = b2 ∧
            ∀ q ∈ b, relB μ' h' XF q.1 q.2 ∧ isOwn q.2 = true ∧ (q.1 ∈ locs.map (·.1) ∨ ∀ cs, hp q.1 = .box cs → ∃ cs', q.2 = .box cs' ∧ cs'.length = cs.length) := by
      intro e1 e2 e3 e4 y' hr' hb'
      have := backs_rel l (base + 100) r us z y' b2 b hz h2 hr' hb' (fun q hq => hpt q (e3 q hq))
      rw [e4]
      exact this
    cases s
    case box t os =>
      simp only [backs] at hb
      obtain ⟨ba, hba, hb1⟩ := bind_some hb
      obtain ⟨bb, hbb, rfl⟩ := map_some hb1
      simp only [outsOf, lentV, relShs] at hr
      obtain ⟨v', r', c1, c2, hve, rfl, hr1, hr2⟩ := hr
      simp only [List.cons.injEq] at hve
      obtain ⟨rfl, rfl⟩ := hve
      have hv' : ∃ a, v = .pointer (some a) := by obtain ⟨b0, off0, _, _, _, hve, _⟩ := hr1; exact ⟨_, hve⟩
      obtain ⟨l1, p1, p2⟩ := backBox_rel HB Kold KR h1 hq0 hr1 (fun a ha => hpt (a.block, a.off, t.n) (by subst ha; simp [partsV])) hba
      obtain ⟨l2, q1, q2⟩ := backs_rel l (base + 100) r us z y.2 c2 bb hz h2 hr2 hbb (fun q hq => hpt q (by
        obtain ⟨a, rfl⟩ := hv'
        simp only [partsV]
        exact List.mem_cons_of_mem _ hq))
      refine ⟨l1 ++ l2, ?_, fun μ' hM hl => ?_⟩
      · simp only [appL_eq, List.map_append, p1]
        have := List.Perm.append_left (q0.lent ++ l1.map (·.1)) q1
        refine this.trans ?_
        rw [List.append_assoc, List.append_assoc]
        refine List.Perm.append_left _ ?_
        rw [← List.append_assoc, ← List.append_assoc]
        exact List.Perm.append_right _ List.perm_append_comm
      · obtain ⟨f1, f2⟩ := p2 μ' hM (fun q hq => hl q (by simp [hq]))
        obtain ⟨g1, g2⟩ := q2 μ' hM (fun q hq => hl q (by simp [hq]))
        refine ⟨?_, fun q hq => ?_⟩
        · simp only [appL_eq, List.map_append, blks, List.filterMap_append] at f1 g1 ⊢
          rw [f1, g1]
        · simp only [appL_eq, List.mem_append] at hq
          rcases hq with hq | hq
          · obtain ⟨a1, a2, a3⟩ := f2 q hq
            exact ⟨a1, a2, a3.imp (fun h => by simp at h ⊢; exact .inl h) id⟩
          · obtain ⟨a1, a2, a3⟩ := g2 q hq
            exact ⟨a1, a2, a3.imp (fun h => by simp at h ⊢; exact .inr h) id⟩
    case lent t => simp [outSh] at hq0
    case dat t => exact skip rfl rfl (fun q hq => hq) (by obtain ⟨x, _, rfl⟩ := map_some hq0; rfl) y hr hb
    case own t => exact skip rfl rfl (fun q hq => hq) (by obtain ⟨x, _, rfl⟩ := map_some hq0; rfl) y hr hb
    case agg t os =>
      refine skip rfl rfl (fun q hq => hq) ?_ y hr hb
      simp only [outSh] at hq0
      split at hq0 <;> try (cases hq0; done)
      obtain ⟨x, _, rfl⟩ := map_some hq0
      rfl
    case ptr id o =>
      refine skip rfl rfl (fun q hq => hq) ?_ y hr hb
      simp only [outSh] at hq0
      split at hq0 <;> try (cases hq0; done)
      obtain ⟨_, hq1⟩ := bif_some hq0
      cases hq1
      rfl
    case nil =>
      refine skip rfl rfl (fun q hq => hq) ?_ y hr hb
      simp only [outSh] at hq0
      split at hq0 <;> try (cases hq0; done)
      cases hq0
      rfl
    case fn f caps =>
      refine skip rfl rfl (fun q hq => hq) ?_ y hr hb
      simp only [outSh] at hq0
      split at hq0 <;> try (cases hq0; done)
      obtain ⟨_, hq1⟩ := bif_some hq0
      have key : ∀ (caps : List (Bool × Ty)) (l : List TV) (p : OutA (capsD caps)), outCaps hp caps l = some p → p.lent = [] := by
        intro caps
        induction caps with
        | nil => intro l p he; cases l <;> simp [outCaps] at he; subst he; rfl
        | cons c caps ih =>
          intro l p he
          obtain ⟨bb, t⟩ := c
          cases l with
          | nil => cases bb <;> simp [outCaps] at he
          | cons tv l =>
            cases bb
            · simp only [outCaps] at he
              obtain ⟨x, _, he1⟩ := bind_some he
              obtain ⟨x2, _, rfl⟩ := map_some he1
              rfl
            · cases tv <;> simp only [outCaps] at he <;> try (cases he; done)
              obtain ⟨x, _, he1⟩ := bind_some he
              obtain ⟨x2, _, rfl⟩ := map_some he1
              rfl
      exact key _ _ _ hq1
end
end Go.VI
set_option linter.unusedVariables false
set_option linter.unusedSimpArgs false
set_option linter.unusedSectionVars false
namespace Go.VI
open Go

theorem bif_true {α : Type} {b : Bool} {x y : α} (h : b = true) : (bif b then x else y) = x := by rw [h]; rfl
theorem bif_false {α : Type} {b : Bool} {x y : α} (h : b = false) : (bif b then x else y) = y := by rw [h]; rfl

section
variable {hp : Nat → Blk}

theorem outCaps_rowish : ∀ (caps : List (Bool × Ty)) (l : List TV) (p : OutA (capsD caps)), outCaps hp caps l = some p → (∀ i ∈ p.bor, rowish (hp i) = true) ∧ p.own = [] ∧ p.lent = []
  | [], [], p, he => by simp only [outCaps, Option.some.injEq] at he; subst he; simp
  | [], _ :: _, p, he => by simp [outCaps] at he
  | (true, t) :: l, [], p, he => by simp [outCaps] at he
  | (false, t) :: l, [], p, he => by simp [outCaps] at he
  | (true, t) :: l, tv :: r, p, he => by
    cases tv <;> simp only [outCaps] at he <;> try (cases he; done)
    obtain ⟨q, hq, he⟩ := bind_some he
    obtain ⟨z, hz, rfl⟩ := map_some he
    simp only [appL_eq]
    refine ⟨fun i hi => ?_, by simp, by simp⟩
    rcases List.mem_append.1 hi with hi | hi
    · exact outAll_rowish hq i hi
    · exact (outCaps_rowish l r z hz).1 i hi
  | (false, t) :: l, tv :: r, p, he => by
    simp only [outCaps] at he
    obtain ⟨q, hq, he⟩ := bind_some he
    obtain ⟨z, hz, rfl⟩ := map_some he
    simp only [appL_eq]
    refine ⟨fun i hi => ?_, by simp, by simp⟩
    rcases List.mem_append.1 hi with hi | hi
    · cases t <;> simp only [outCell] at hq
      case sl e => exact rowOf_rowish hq i hi
      all_goals (cases tv <;> simp [rowsIn] at hi <;> simp at hq)
    · exact (outCaps_rowish l r z hz).1 i hi

theorem outSh_rowish {s : Sh} {tv : TV} {p : OutA s.D} (he : outSh hp s tv = some p) : (∀ i ∈ p.bor, rowish (hp i) = true) := by
  cases s <;> simp only [outSh] at he
  case dat t =>
    obtain ⟨x, hx, rfl⟩ := map_some he
    intro i hi
    cases t <;> simp only [outCell] at hx
    case sl e => exact rowOf_rowish hx i hi
    all_goals (cases tv <;> simp [rowsIn] at hi <;> simp at hx)
  case own t => obtain ⟨x, hx, rfl⟩ := map_some he; simp
  case lent t => cases he
  case agg t os =>
    split at he <;> try (cases he; done)
    obtain ⟨q, hq, rfl⟩ := map_some he
    exact outAll_rowish hq
  case box t os =>
    split at he <;> try (cases he; done)
    · split at he <;> try (cases he; done)
      obtain ⟨hfit, he⟩ := bif_some he
      obtain ⟨q, hq, rfl⟩ := map_some he
      exact outAll_rowish hq
    · split at he <;> try (cases he; done)
      split at he <;> try (cases he; done)
      obtain ⟨hfit, he⟩ := bif_some he
      obtain ⟨q, hq, rfl⟩ := map_some he
      exact outAll_rowish hq
  case ptr id o =>
    split at he <;> try (cases he; done)
    obtain ⟨hc, he⟩ := bif_some he
    cases he
    simp
  case nil =>
    split at he <;> try (cases he; done)
    cases he
    simp
  case fn f caps =>
    split at he <;> try (cases he; done)
    obtain ⟨hc, he⟩ := bif_some he
    exact (outCaps_rowish _ _ _ he).1

theorem outShs_rowish : ∀ (l : List Sh) (tvs : List TV) (p : OutA (ShsD l)), outShs hp l tvs = some p → ∀ i ∈ p.bor, rowish (hp i) = true
  | [], [], p, he => by simp only [outShs, Option.some.injEq] at he; subst he; simp
  | [], _ :: _, p, he => by simp [outShs] at he
  | _ :: _, [], p, he => by simp [outShs] at he
  | s :: l, tv :: r, p, he => by
    simp only [outShs] at he
    obtain ⟨q, hq, he⟩ := bind_some he
    obtain ⟨z, hz, rfl⟩ := map_some he
    simp only [appL_eq]
    intro i hi
    rcases List.mem_append.1 hi with hi | hi
    · exact outSh_rowish hq i hi
    · exact outShs_rowish l r z hz i hi

theorem ownCell_row {e : Ty} {rest : List TV} {tv : TV} {p : Out (List e.D)} (he : ownCell hp e rest tv = some p) : ∀ i ∈ p.own, ∃ u x, hp i = .row u x := by
  cases tv <;> simp only [ownCell] at he <;> try (cases he; done)
  case row id lo =>
    split at he <;> try (cases he; done)
    rename_i u x hh
    obtain ⟨y, _, rfl⟩ := map_some he
    intro i hi
    simp at hi
    subst hi
    exact ⟨u, x, hh⟩
  case nilS => cases he; simp
theorem outCells_row {os : List Nat} : ∀ (t : Ty) (j : Nat) (cs : List TV) (p : Out t.D), outCells hp os j t cs = some p → ∀ i ∈ p.own, ∃ u x, hp i = .row u x := by
  have leaf : ∀ (t : Ty) (j : Nat) (cs : List TV) (p : Out t.D), outScalar hp os j t cs = some p → ∀ i ∈ p.own, ∃ u x, hp i = .row u x := by
    intro t j cs p he
    cases cs with
    | nil => cases he
    | cons v r =>
      unfold outScalar at he
      cases t <;> simp only at he
      case sl e =>
        cases hj : inL j os with
        | true => rw [hj] at he; exact ownCell_row he
        | false =>
          rw [hj] at he
          simp only [cond_false] at he
          obtain ⟨x, _, rfl⟩ := map_some he
          simp
      all_goals
        obtain ⟨x, _, rfl⟩ := map_some he
        simp
  intro t
  induction t with
  | pair a b iha ihb =>
    intro j cs p he
    simp only [outCells] at he
    obtain ⟨q, hq, he⟩ := bind_some he
    obtain ⟨r, hr, rfl⟩ := map_some he
    simp only [appL_eq]
    intro i hi
    rcases List.mem_append.1 hi with hi | hi
    · exact iha _ _ _ hq i hi
    · exact ihb _ _ _ hr i hi
  | unit => intro j cs p he; simp only [outCells, Option.some.injEq] at he; subst he; simp
  | int k => intro j cs p he; exact leaf _ _ _ _ he
  | bool => intro j cs p he; exact leaf _ _ _ _ he
  | str => intro j cs p he; exact leaf _ _ _ _ he
  | sl e ih => intro j cs p he; exact leaf _ _ _ _ he
theorem outAll_row {os : List Nat} {t : Ty} {cs : List TV} {p : Out t.D} (he : outAll hp os t cs = some p) : ∀ i ∈ p.own, ∃ u x, hp i = .row u x := by
  unfold outAll at he
  obtain ⟨q, hq, he⟩ := bind_some he
  split at he <;> try (cases he; done)
  cases he
  exact outCells_row _ _ _ _ hq
theorem outSh_row {s : Sh} {tv : TV} {p : OutA s.D} (he : outSh hp s tv = some p) : ∀ i ∈ p.own, ∃ u x, hp i = .row u x := by
  cases s <;> simp only [outSh] at he
  case dat t => obtain ⟨x, hx, rfl⟩ := map_some he; simp
  case own t => obtain ⟨x, hx, rfl⟩ := map_some he; exact ownCell_row hx
  case lent t => cases he
  case agg t os =>
    split at he <;> try (cases he; done)
    obtain ⟨q, hq, rfl⟩ := map_some he
    exact outAll_row hq
  case box t os =>
    split at he <;> try (cases he; done)
    · split at he <;> try (cases he; done)
      obtain ⟨hfit, he⟩ := bif_some he
      obtain ⟨q, hq, rfl⟩ := map_some he
      exact outAll_row hq
    · split at he <;> try (cases he; done)
      split at he <;> try (cases he; done)
      obtain ⟨hfit, he⟩ := bif_some he
      obtain ⟨q, hq, rfl⟩ := map_some he
      simp
  case ptr id o =>
    split at he <;> try (cases he; done)
    obtain ⟨hc, he⟩ := bif_some he
    cases he
    simp
  case nil =>
    split at he <;> try (cases he; done)
    cases he
    simp
  case fn f caps =>
    split at he <;> try (cases he; done)
    obtain ⟨hc, he⟩ := bif_some he
    simp [(outCaps_rowish _ _ _ he).2.1]
theorem outShs_row : ∀ (l : List Sh) (tvs : List TV) (p : OutA (ShsD l)), outShs hp l tvs = some p → ∀ i ∈ p.own, ∃ u x, hp i = .row u x
  | [], [], p, he => by simp only [outShs, Option.some.injEq] at he; subst he; simp
  | [], _ :: _, p, he => by simp [outShs] at he
  | _ :: _, [], p, he => by simp [outShs] at he
  | s :: l, tv :: r, p, he => by
    simp only [outShs] at he
    obtain ⟨q, hq, he⟩ := bind_some he
    obtain ⟨z, hz, rfl⟩ := map_some he
    simp only [appL_eq]
    intro i hi
    rcases List.mem_append.1 hi with hi | hi
    · exact outSh_row hq i hi
    · exact outShs_row l r z hz i hi

/-- which part of a box is lent -/
theorem outSh_part {μ : Nat → Option Loc} {h : Array Obj} {X : Nat → Prop} {s : Sh} {tv : TV} {p : OutA s.D} (he : outSh hp s tv = some p) {v : Value} (hv : relV μ h X tv v) {r : List Value} {l : List Sh} :
    ∀ i ∈ p.lent, ∀ cs, hp i = .box cs → ∀ L b, μ i = some L → L.blk = some b → ∃ off m, (b, L.off + off, m) ∈ partsV (s :: l) (v :: r) ∧ off + m ≤ cs.length := by
  cases s <;> simp only [outSh] at he
  case dat t => obtain ⟨x, hx, rfl⟩ := map_some he; simp
  case own t => obtain ⟨x, hx, rfl⟩ := map_some he; simp
  case lent t => cases he
  case agg t os =>
    split at he <;> try (cases he; done)
    obtain ⟨q, hq, rfl⟩ := map_some he
    simp
  case box t os =>
    split at he <;> try (cases he; done)
    · rename_i id off
      split at he <;> try (cases he; done)
      rename_i cs hh
      obtain ⟨hfit, he⟩ := bif_some he
      have hfit := Nat.le_of_ble_eq_true hfit
      rw [lenL_eq] at hfit
      obtain ⟨q, hq, rfl⟩ := map_some he
      intro i hi cs' hcs L b h1 h2
      simp at hi
      subst hi
      rw [hh] at hcs
      cases hcs
      simp only [relV] at hv
      obtain ⟨L', b', k1, k2, rfl⟩ := hv
      rw [h1] at k1; cases k1
      rw [h2] at k2; cases k2
      exact ⟨off, t.n, by simp [partsV], hfit⟩
    · rename_i id k off
      split at he <;> try (cases he; done)
      split at he <;> try (cases he; done)
      rename_i ety x hh
      obtain ⟨hfit, he⟩ := bif_some he
      obtain ⟨q, hq, rfl⟩ := map_some he
      intro i hi cs' hcs
      simp at hi
      subst hi
      rw [hh] at hcs
      cases hcs
  case ptr id o =>
    split at he <;> try (cases he; done)
    obtain ⟨hc, he⟩ := bif_some he
    cases he
    simp
  case nil =>
    split at he <;> try (cases he; done)
    cases he
    simp
  case fn f caps =>
    split at he <;> try (cases he; done)
    obtain ⟨hc, he⟩ := bif_some he
    simp [(outCaps_rowish _ _ _ he).2.2]
theorem partsV_tail {s : Sh} {l : List Sh} {v : Value} {r : List Value} {q : Nat × Nat × Nat} (h : q ∈ partsV l r) : q ∈ partsV (s :: l) (v :: r) := by
  cases s <;> try (exact h)
  cases v <;> try (exact h)
  rename_i a
  cases a <;> first | exact h | exact List.mem_cons_of_mem _ h
theorem outShs_part {μ : Nat → Option Loc} {h : Array Obj} {X : Nat → Prop} : ∀ (l : List Sh) (tvs : List TV) (p : OutA (ShsD l)), outShs hp l tvs = some p → ∀ vs, relVs μ h X tvs vs →
    ∀ i ∈ p.lent, ∀ cs, hp i = .box cs → ∀ L b, μ i = some L → L.blk = some b → ∃ off m, (b, L.off + off, m) ∈ partsV l vs ∧ off + m ≤ cs.length
  | [], [], p, he, vs, hv => by simp only [outShs, Option.some.injEq] at he; subst he; simp
  | [], _ :: _, p, he, vs, hv => by simp [outShs] at he
  | _ :: _, [], p, he, vs, hv => by simp [outShs] at he
  | s :: l, tv :: r, p, he, vs, hv => by
    simp only [relVs] at hv
    obtain ⟨v, us, rfl, h1, h2⟩ := hv
    simp only [outShs] at he
    obtain ⟨q, hq, he⟩ := bind_some he
    obtain ⟨z, hz, rfl⟩ := map_some he
    simp only [appL_eq]
    intro i hi cs hcs L b k1 k2
    rcases List.mem_append.1 hi with hi | hi
    · exact outSh_part hq h1 i hi cs hcs L b k1 k2
    · obtain ⟨off, m, g1, g2⟩ := outShs_part l r z hz us h2 i hi cs hcs L b k1 k2
      exact ⟨off, m, partsV_tail g1, g2⟩
end

/-- values out of data -/
theorem inShs_rel {pt : Nat → Option Loc} {h : Array Obj} {X : Nat → Prop} : ∀ (l : List Sh) (base : Nat) (x : ShsD l) (vs : List Value) (bs : List Nat), relShs pt h X l x vs bs → (∀ f caps, .fn f caps ∈ l → ∀ c ∈ caps, c.1 = false → c.2.n = 1) →
    ∃ locs : List (Nat × Loc), locs.map (·.1) = (inShs base l x).2.map (·.1) ∧ locs.filterMap (·.2.blk) = bs ∧
      (∀ μ : Nat → Option Loc, (∀ q ∈ locs, μ q.1 = some q.2) → (∀ i L, pt i = some L → μ i = some L) → relVs μ h X (inShs base l x).1 vs ∧ ∀ q ∈ (inShs base l x).2, relB μ h X q.1 q.2 ∧ isOwn q.2 = true)
  | [], base, x, vs, bs, hr, hfn => by
    obtain ⟨rfl, rfl⟩ := hr
    exact ⟨[], rfl, rfl, fun μ _ _ => ⟨rfl, by simp [inShs]⟩⟩
  | s :: l, base, x, vs, bs, hr, hfn => by
    obtain ⟨v, r, b1, b2, rfl, rfl, h1, h2⟩ := hr
    obtain ⟨l1, p1, p2, p3⟩ := inSh_rel (base := base) h1 (fun f caps e => hfn f caps (by simp [e]))
    obtain ⟨l2, q1, q2, q3⟩ := inShs_rel l (base + 100) x.2 r b2 h2 (fun f caps e => hfn f caps (by simp [e]))
    refine ⟨l1 ++ l2, by simp [inShs, appL_eq, p1, q1], by simp [p2, q2], fun μ hμ hpt => ?_⟩
    obtain ⟨k1, k2⟩ := p3 μ (fun q hq => hμ q (by simp [hq])) hpt
    obtain ⟨k3, k4⟩ := q3 μ (fun q hq => hμ q (by simp [hq])) hpt
    refine ⟨?_, ?_⟩
    · simp only [inShs, relVs]
      exact ⟨v, r, rfl, k1, k3⟩
    · intro q hq
      simp only [inShs, appL_eq, List.mem_append] at hq
      rcases hq with hq | hq
      · exact k2 q hq
      · exact k4 q hq

theorem relShs_pt {pt pt' : Nat → Option Loc} {h : Array Obj} {X : Nat → Prop} : ∀ (l : List Sh) (x : ShsD l) (vs : List Value) (bs : List Nat), (∀ id o, Sh.ptr id o ∉ l) → relShs pt h X l x vs bs → relShs pt' h X l x vs bs
  | [], _, _, _, _, hr => hr
  | s :: l, x, vs, bs, hn, hr => by
    obtain ⟨v, r, b1, b2, h1, h2, h3, h4⟩ := hr
    refine ⟨v, r, b1, b2, h1, h2, ?_, relShs_pt l x.2 r b2 (fun id o hm => hn id o (by simp [hm])) h4⟩
    cases s
    case ptr id o => exact absurd (by simp) (hn id o)
    all_goals exact h3

theorem resV_rel {μ : Nat → Option Loc} {h : Array Obj} {X : Nat → Prop} {l : List TV} {vs : List Value} (hr : relVs μ h X l vs) : relV μ h X (resV l) (retOf vs) := by
  match l, hr with
  | [], hr => simp only [relVs] at hr; subst hr; simp only [resV, retOf, relV]; exact ⟨_, rfl, rfl⟩
  | [x], hr =>
    simp only [relVs] at hr
    obtain ⟨v, r, rfl, h1, rfl⟩ := hr
    exact h1
  | x :: y :: l, hr =>
    have hr' := hr
    simp only [relVs] at hr
    obtain ⟨v, r, rfl, h1, v2, r2, rfl, h2, h3⟩ := hr
    simp only [resV, retOf, relV]
    exact ⟨_, rfl, by simpa using hr'⟩

theorem relB_sub {μ : Nat → Option Loc} {h : Array Obj} {X X' : Nat → Prop} (hX : ∀ b, X' b → X b) {i : Nat} {B : Blk} (hr : relB μ h X i B) : relB μ h X' i B := by
  have K : Keeps h h X X' := fun b o hx ho => ⟨ho, fun h' => hx (hX b h')⟩
  cases B with
  | none => exact hr
  | dead => trivial
  | box cs => obtain ⟨L, h1, h2⟩ := hr; exact ⟨L, h1, relBx_mono (MuLe.refl μ) K (fun _ _ => rfl) h2⟩
  | row t x => obtain ⟨L, h1, h2⟩ := hr; exact ⟨L, h1, relR_mono K (fun _ _ => rfl) h2⟩
  | froz t x => obtain ⟨L, h1, h2⟩ := hr; exact ⟨L, h1, relF_mono K h2⟩

theorem blks_inj {μ : Nat → Option Loc} : ∀ (l : List Nat), (blks μ l).Nodup → ∀ i ∈ l, ∀ j ∈ l, ∀ L M b, μ i = some L → μ j = some M → L.blk = some b → M.blk = some b → i = j
  | [], _, i, hi, _, _, _, _, _, _, _, _, _ => by cases hi
  | k :: l, hn, i, hi, j, hj, L, M, b, h1, h2, h3, h4 => by
    have mem : ∀ i ∈ l, ∀ L, μ i = some L → L.blk = some b → b ∈ blks μ l := fun i hi L h1 h3 => mem_blks.2 ⟨i, hi, L, h1, h3⟩
    have hn' : (blks μ l).Nodup ∧ ((∃ K, μ k = some K ∧ K.blk = some b) → b ∉ blks μ l) := by
      cases hk : (μ k).bind (·.blk) with
      | none =>
        have e : blks μ (k :: l) = blks μ l := by simp [blks, hk]
        rw [e] at hn
        refine ⟨hn, ?_⟩
        rintro ⟨K, k1, k2⟩
        rw [k1] at hk
        simp [k2] at hk
      | some c =>
        have e : blks μ (k :: l) = c :: blks μ l := by simp [blks, hk]
        rw [e, List.nodup_cons] at hn
        refine ⟨hn.2, ?_⟩
        rintro ⟨K, k1, k2⟩
        rw [k1] at hk
        simp [k2] at hk
        subst hk
        exact hn.1
    rcases List.mem_cons.1 hi with ei | hi'
    · rcases List.mem_cons.1 hj with ej | hj'
      · rw [ei, ej]
      · exact absurd (mem j hj' M h2 h4) (hn'.2 ⟨L, ei ▸ h1, h3⟩)
    · rcases List.mem_cons.1 hj with ej | hj'
      · exact absurd (mem i hi' L h1 h3) (hn'.2 ⟨M, ej ▸ h2, h4⟩)
      · exact blks_inj l hn'.1 i hi' j hj' L M b h1 h2 h3 h4

end Go.VI
