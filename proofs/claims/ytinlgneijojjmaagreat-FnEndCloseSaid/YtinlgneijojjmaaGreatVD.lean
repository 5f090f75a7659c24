/- The engine's soundness, part Zj: the run of a function's code, and what a function promises. -/
import Derived.Test.YtinlgneijojjmaaGreatVC
import Derived.ProofKit
import Derived.OpenShut
import Derived.Below
set_option linter.unusedVariables false
set_option linter.unusedSimpArgs false
set_option linter.unusedSectionVars false
namespace Go.VI
open Go

def Goes (P : Program) (f : Nat) (R : Ending → World → Prop) (todo : List Item) (a : Act) (w : World) : Prop :=
  ∀ b : Frame, b.fn = f → b.kind = .normal → ∀ cs, ∃ e w' fr, R e w' ∧ Comes P (lone (b.at a todo) cs w) (lone fr cs w') e ∧ fr.fn = f ∧ fr.leaving P w' e

theorem Goes.of_steps {P : Program} {f : Nat} {R : Ending → World → Prop} {todo todo' : List Item} {a a' : Act} {w w' : World} (h : ∀ (b : Frame) cs, Steps P (lone (b.at a todo) cs w) (lone (b.at a' todo') cs w')) (g : Goes P f R todo' a' w') : Goes P f R todo a w := by
  intro b hb hk cs
  obtain ⟨e, w1, fr, h1, h2, h3⟩ := g b hb hk cs
  exact ⟨e, w1, fr, h1, .of_steps (h b cs) h2, h3⟩

structure FunIs (P : Program) (f : Nat) (fn : Fun) : Prop where
  is : ∃ F : Func, P.funcs[f]? = some F ∧ F.body = some fn.body ∧ F.ntmps = fn.nt ∧ F.results.toList = fn.rs ∧ (F.name == "runtime.NumGoroutine") = false

def LabOk (P : Program) (f : Nat) (fn : Fun) (args res : List Sh) (l : Lab (ShsD res × ShsD (outsOf args))) : Prop :=
  saneL args l.sl = true ∧ ∀ C vs, CallOk args C vs → ∀ μ a w x y, StOk fn.nt (unpackL l.sl x (fun _ => .hole) (fun _ => .none)) C μ a w → l.F x = some y → Goes P f (RetPost C args res vs y) (contOf fn.body l.path) a w

theorem findLab_mem {R : Type} {r : Nat} : ∀ {labs : List (Lab R)} {l : Lab R}, findLab r labs = some l → l ∈ labs
  | [], l, h => by simp [findLab] at h
  | z :: labs, l, h => by
    simp only [findLab] at h
    cases hb : Nat.beq z.reg r with
    | true => rw [hb] at h; simp at h; simp [h]
    | false => rw [hb] at h; exact List.mem_cons_of_mem _ (findLab_mem h)
theorem dirsEq_eq : ∀ {a b : List Dir}, dirsEq a b = true → a = b
  | [], [], _ => rfl
  | [], _ :: _, h => by simp [dirsEq] at h
  | .l :: a, [], h => by simp [dirsEq] at h
  | .r :: a, [], h => by simp [dirsEq] at h
  | .l :: a, .l :: b, h => by rw [dirsEq_eq (a := a) (b := b) (by simpa [dirsEq] using h)]
  | .r :: a, .r :: b, h => by rw [dirsEq_eq (a := a) (b := b) (by simpa [dirsEq] using h)]
  | .l :: a, .r :: b, h => by simp [dirsEq] at h
  | .r :: a, .l :: b, h => by simp [dirsEq] at h

theorem cont_app : ∀ (c : Code) (p q : List Dir) (d : Code), subC c p = some d → contOf c (p ++ q) = contOf d q ++ restOf c p
  | .seq a b, .l :: p, q, d, h => by simp only [subC] at h; simp only [List.cons_append, contOf, restOf, cont_app a p q d h, List.append_assoc]
  | .seq a b, .r :: p, q, d, h => by simp only [subC] at h; simp only [List.cons_append, contOf, restOf, cont_app b p q d h]
  | .cond _ a _, .l :: p, q, d, h => by simp only [subC] at h; simp only [List.cons_append, contOf, restOf, cont_app a p q d h]
  | .cond _ _ b, .r :: p, q, d, h => by simp only [subC] at h; simp only [List.cons_append, contOf, restOf, cont_app b p q d h]
  | .block i c, .l :: p, q, d, h => by simp only [subC] at h; simp only [List.cons_append, contOf, restOf, cont_app c p q d h, List.append_assoc]
  | .loop c, .l :: p, q, d, h => by simp only [subC] at h; simp only [List.cons_append, contOf, restOf, cont_app c p q d h, List.append_assoc]
  | c, [], q, d, h => by
    have : subC c [] = some c := by cases c <;> rfl
    rw [this] at h
    cases h
    have : restOf c [] = [] := by cases c <;> rfl
    rw [this, List.nil_append, List.append_nil]
  | .block i c, .r :: p, q, d, h => by simp [subC] at h
  | .loop c, .r :: p, q, d, h => by simp [subC] at h
  | .skip, x :: p, q, d, h => by simp [subC] at h
  | .region _ _ _, x :: p, q, d, h => by simp [subC] at h
  | .rangeFunc _ _ _ _, x :: p, q, d, h => by simp [subC] at h
  | .exit _, x :: p, q, d, h => by simp [subC] at h
  | .scope _, x :: p, q, d, h => by simp [subC] at h
  | .label _, x :: p, q, d, h => by simp [subC] at h
  | .goto _, x :: p, q, d, h => by simp [subC] at h
  | .ret, x :: p, q, d, h => by simp [subC] at h
  | .refuse _, x :: p, q, d, h => by simp [subC] at h

theorem evT_st {nt : Nat} {st : St} {C : Ctx} {μ : Nat → Option Loc} {a : Act} {w : World} (R : StOk nt st C μ a w) (x : Operand) : relV μ w.heap (XX C μ st.heap) (evT [] st.tmps x) (a.eval x) := by
  cases x with
  | tmp t =>
    simp only [evT, Act.eval]
    unfold seeT
    split
    · rename_i j b v hv
      exact absurd hv (R.noopt t j b v)
    · exact R.tm t
  | const v => exact ofConst_rel v
  | func f => simp [evT, Act.eval, relV, relVs]
  | global g => simp [evT, relV]

section
variable {P : Program} {T : Tab} (TOk : TabOk P T) (EOk : EqOk P T) {ens : List En} (EnOk : ∀ en ∈ ens, FnOk P en) (hmix : P.follows .mixedOrders = true) {f : Nat} {fn : Fun} (hf : FunIs P f fn) {args res : List Sh} (hs : saneA fn.nt args res = true)
include TOk hf hs

theorem ret_goes {C : Ctx} {vs : List Value} (hC : CallOk args C vs) {st : St} {μ : Nat → Option Loc} {a : Act} {w : World} (R : StOk fn.nt st C μ a w) {y : ShsD res × ShsD (outsOf args)} (h : retV T st fn.rs args res = some y)
    {todo : List Item} (hstep : ∀ (b : Frame) cs, step P (lone (b.at a todo) cs w) = .next (lone { b.at a todo with mode := .returning } cs w)) : Goes P f (RetPost C args res vs y) todo a w := by
  obtain ⟨F, f1, f2, f3, f4, f5⟩ := hf.is
  rw [← f4] at h
  obtain ⟨v, h1, h2⟩ := ret_ok TOk R hs hC h
  intro b hb hk cs
  refine ⟨.returned v, w, { b.at a todo with mode := .returning }, h2, .one (hstep b cs), hb, rfl, R.defers, hk, F, ?_, h1⟩
  show P.funcs[b.fn]? = some F
  rw [hb]; exact f1

include EOk EnOk hmix
theorem ex_sound {labs : List (Lab (ShsD res × ShsD (outsOf args)))} (hl : ∀ l ∈ labs, LabOk P f fn args res l) : ∀ (n : Nat) (first : Bool) (p : List Dir) (st : St) (y : ShsD res × ShsD (outsOf args)),
    ex T ens fn args res labs n first p st = some y → ∀ C vs, CallOk args C vs → ∀ μ a w, StOk fn.nt st C μ a w → Goes P f (RetPost C args res vs y) (contOf fn.body p) a w
  | 0, first, p, st, y, h, C, vs, hC, μ, a, w, R => by simp [ex] at h
  | n + 1, first, p, st, y, h, C, vs, hC, μ, a, w, R => by
    have next : ∀ (q : Option (List Dir)) (st : St) (μ : Nat → Option Loc) (a : Act) (w : World), (match q with | some q => ex T ens fn args res labs n false q st | none => retV T st fn.rs args res) = some y → StOk fn.nt st C μ a w →
        Goes P f (RetPost C args res vs y) (oCont fn.body q) a w := by
      intro q st μ a w h R
      cases q with
      | some q => exact ex_sound hl n false q st y h C vs hC μ a w R
      | none => exact ret_goes TOk hf hs hC R h (fun b cs => step_end)
    have behind : ∀ (st : St) (μ : Nat → Option Loc) (a : Act) (w : World), (match after fn.body p with | some q => ex T ens fn args res labs n false q st | none => retV T st fn.rs args res) = some y → StOk fn.nt st C μ a w →
        Goes P f (RetPost C args res vs y) (restOf fn.body p) a w := by
      intro st μ a w h R
      refine Goes.of_steps (fun b cs => ?_) (next _ st μ a w h R)
      have := after_steps (P := P) (b := b) (a := a) (cs := cs) (w := w) fn.body p []
      simpa using this
    simp only [ex] at h
    cases hsub : subC fn.body p with
    | none => rw [hsub] at h; cases h
    | some d =>
      rw [hsub] at h
      rw [cont_sub _ _ _ hsub]
      have inside : ∀ (q : List Dir) (todo : List Item), contOf d q = todo → contOf fn.body (p ++ q) = todo ++ restOf fn.body p := fun q todo e => by rw [cont_app _ _ _ _ hsub, e]
      cases d <;> simp only at h <;> try (cases h; done)
      case skip => exact Goes.of_steps (fun b cs => .one step_skip) (behind st μ a w h R)
      case region id ops draw =>
        split at h
        · rename_i l hfl
          obtain ⟨hd, h⟩ := bif_some h
          obtain ⟨x, hx, h⟩ := bind_some h
          have hmem : l ∈ labs := by
            split at hfl
            · cases hfl
            · exact findLab_mem hfl
          obtain ⟨l1, l2⟩ := hl l hmem
          obtain ⟨μ', R'⟩ := pack_ok hC R l1 hx
          have := l2 C vs hC μ' a w x y R' h
          rw [← dirsEq_eq hd, cont_sub _ _ _ hsub] at this
          exact this
        · obtain ⟨stf, h1, h2⟩ := region_sem TOk EOk EnOk hmix h R
          intro b hb hk cs
          obtain ⟨e, a', w', ⟨rfl, μ', R'⟩, harr⟩ := h2 b (restOf fn.body p) cs
          obtain ⟨e, w1, fr, g1, g2, g3⟩ := behind stf μ' a' w' h1 R' b hb hk cs
          exact ⟨e, w1, fr, g1, .of_steps harr g2, g3⟩
      case seq x y' =>
        have := ex_sound hl n first _ st y h C vs hC μ a w R
        rw [appL_eq, inside [.l] [.code x, .code y'] (by simp [contOf, cont_nil])] at this
        exact Goes.of_steps (fun b cs => .one step_seq) this
      case cond c x y' =>
        have hc := evT_st R c
        split at h <;> try (cases h; done)
        rename_i b hb
        rw [hb] at hc
        have hc := bool_val (w := w) hc
        cases b with
        | true =>
          have := ex_sound hl n false _ st y h C vs hC μ a w R
          rw [appL_eq, inside [.l] [.code x] (by simp [contOf, cont_nil])] at this
          exact Goes.of_steps (fun b cs => .one (step_cond hc)) this
        | false =>
          have := ex_sound hl n false _ st y h C vs hC μ a w R
          rw [appL_eq, inside [.r] [.code y'] (by simp [contOf, cont_nil])] at this
          exact Goes.of_steps (fun b cs => .one (step_cond hc)) this
      case block i c =>
        have := ex_sound hl n first _ st y h C vs hC μ a w R
        rw [appL_eq, inside [.l] [.code c, .inBlock i] (by simp [contOf, cont_nil])] at this
        exact Goes.of_steps (fun b cs => .one step_block) this
      case loop c =>
        have := ex_sound hl n first _ st y h C vs hC μ a w R
        rw [appL_eq, inside [.l] [.code c, .inLoop c] (by simp [contOf, cont_nil])] at this
        exact Goes.of_steps (fun b cs => .one step_loop) this
      case exit id =>
        split at h <;> try (cases h; done)
        rename_i q hq
        refine Goes.of_steps (fun b cs => ?_) (next q st μ a w h R)
        obtain ⟨K', h1, h2⟩ := (exit_steps (P := P) (b := b) (a := a) (cs := cs) (w := w) (id := id) fn.body p).1 q hq []
        simp only [List.append_nil] at h1 h2
        exact .head (step_exit h1) h2
      case ret => exact ret_goes TOk hf hs hC R h (fun b cs => step_ret)

/-- a marked place whose answer is the run from there -/
theorem lab_run {labs : List (Lab (ShsD res × ShsD (outsOf args)))} (hl : ∀ l ∈ labs, LabOk P f fn args res l) {reg : Nat} {path : List Dir} {sl : List (Nat × Sh)} (hsl : saneL args sl = true) {F : ShsD (mapL (·.2) sl) → Option (ShsD res × ShsD (outsOf args))}
    (hF : ∀ x, runL T ens fn args res labs path sl x = F x) : LabOk P f fn args res ⟨reg, path, sl, F⟩ := by
  refine ⟨hsl, fun C vs hC μ a w x y R h => ?_⟩
  have h : runL T ens fn args res labs path sl x = some y := (hF x).trans h
  exact ex_sound TOk EOk EnOk hmix hf hs hl _ _ _ _ y h C vs hC μ a w R

theorem fn_ok {labs : List (Lab (ShsD res × ShsD (outsOf args)))} (hl : ∀ l ∈ labs, LabOk P f fn args res l) {tot : Bool} {F : ShsD args → Option (ShsD res × ShsD (outsOf args))}
    (hF : ∀ x, runF T ens fn args res labs x = F x) : FnOk P ⟨f, args, res, tot, F⟩ := by
  obtain ⟨Fn, f1, f2, f3, f4, f5⟩ := hf.is
  refine ⟨⟨Fn, f1, f5, by rw [f2]; rfl⟩, (saneA_res hs).1, (saneA_args hs).2.2.2.1, ?_⟩
  intro w X0 vs bs x y hx0 hr hnb hd hy
  simp only at hr hy x y
  rw [← hF x] at hy
  obtain ⟨C, c1, c2, c3, hC, μ, R⟩ := start_ok hs hx0 hr hnb hd
  have := ex_sound TOk EOk EnOk hmix hf hs hl _ _ _ _ y hy C vs hC μ _ w R
  rw [cont_nil] at this
  intro cs
  have henter : Frame.enter P f vs.toArray .normal = ({ (default : Frame) with fn := f, kind := .normal } : Frame).at { tmps := vs.toArray ++ Array.replicate (fn.nt - vs.toArray.size) undef, defers := [] } [.code fn.body] := by
    simp [Frame.enter, Frame.at, f1, f2, f3]
  obtain ⟨e, w', fr, h1, h2, h3⟩ := this { (default : Frame) with fn := f, kind := .normal } rfl rfl cs
  rw [← henter] at h2
  refine ⟨e, w', fr, ?_, h2, h3⟩
  obtain ⟨us, b1, b2, rfl, k1, k2, k3, k4, k5, k6, k7, k8, k9, k10⟩ := h1
  rw [c1] at k1 k2 k3 k4 k5 k9 k10
  simp only [c2] at k6 k7 k9
  refine ⟨us, b1, b2, rfl, k1, k2, k3, k4, fun b hb hn => k5 b hb (fun h => hn ((c3 b).1 h)), k6, k7, k8, fun b hb => ?_, k10⟩
  obtain ⟨m1, m2⟩ := k9 b hb
  exact ⟨m1, m2.imp (fun h => (c3 b).1 h) id⟩
end

end Go.VI
set_option linter.unusedVariables false
set_option linter.unusedSimpArgs false
set_option linter.unusedSectionVars false
namespace Go.VI
open Go

def offsEq : List Field → List Nat → Bool
  | [], [] => true
  | f :: l, n :: m => Nat.beq f.offset n && offsEq l m
  | _, _ => false
def fieldSizes (P : Program) (fs : List Nat) (n : Nat) : Nat → List Field → Bool
  | _, [] => true
  | k, f :: l => (match P.info? f.type with
    | some fi => Nat.ble 1 fi.size && Nat.beq fi.size (fieldSz fs n k f.offset)
    | none => false) && fieldSizes P fs n (k + 1) l
def kindB (P : Program) : TK → Nat → TypeDesc → Bool
  | .int k, _, .int k' => kindEq k k'
  | .bool, _, .bool => true
  | .str, _, .string => true
  | .sl e, _, .slice e' => Nat.beq e e'
  | .ptr e, _, .pointer e' => Nat.beq e e'
  | .struct fs, n, .struct fields => offsEq fields.toList fs && fieldSizes P fs n 0 fields.toList
  | .other, _, .struct _ => false
  | .other, _, .array _ _ => false
  | .other, _, _ => true
  | _, _, _ => false
/-- the zero value's cells -/
def zeroI (k : IntKind) : List Value → Option (List Value)
  | .int k' n :: r => bif kindEq k k' && decide (n = 0) then some r else none
  | _ => none
def zeroBo : List Value → Option (List Value)
  | .bool false :: r => some r
  | _ => none
def zeroS : List Value → Option (List Value)
  | .string s :: r => bif Nat.beq s.size 0 then some r else none
  | _ => none
def zeroSl : List Value → Option (List Value)
  | .slice none 0 0 :: r => some r
  | _ => none
def zeroB : Ty → List Value → Option (List Value)
  | .pair a b, l => (zeroB a l).bind (zeroB b)
  | .unit, l => some l
  | .int k, l => zeroI k l
  | .bool, l => zeroBo l
  | .str, l => zeroS l
  | .sl _, l => zeroSl l
def tiB (P : Program) (t : Nat) (i : TI) : Bool :=
  match P.info? t, P.underlying t with
  | some info, some d => Nat.beq info.size i.size && Nat.ble info.bytes 65536 && kindB P i.kind i.size d &&
      (bif Nat.beq i.ty.n i.size then (match info.zero with
        | some z => (match zeroB i.ty z.cells.toList with
          | some [] => true
          | _ => false)
        | none => false) else true)
  | _, _ => false
def tabB (P : Program) : Tab → Bool
  | [] => true
  | (t, i) :: r => tiB P t i && tabB P r

theorem offsEq_eq : ∀ (l : List Field) (m : List Nat), offsEq l m = true → l.map (·.offset) = m
  | [], [], _ => rfl
  | [], _ :: _, h => by simp [offsEq] at h
  | _ :: _, [], h => by simp [offsEq] at h
  | f :: l, n :: m, h => by
    simp only [offsEq, Bool.and_eq_true] at h
    simp [Nat.eq_of_beq_eq_true h.1, offsEq_eq l m h.2]
theorem fieldSizes_spec {P : Program} {fs : List Nat} {n : Nat} : ∀ (l : List Field) (k : Nat), fieldSizes P fs n k l = true → ∀ (f : Nat) (fd : Field), l[f]? = some fd → ∃ fi, P.info? fd.type = some fi ∧ 1 ≤ fi.size ∧ fi.size = fieldSz fs n (k + f) fd.offset
  | [], k, h, f, fd, hf => by simp at hf
  | g :: l, k, h, 0, fd, hf => by
    simp at hf
    subst hf
    simp only [fieldSizes, Bool.and_eq_true] at h
    cases hi : P.info? g.type with
    | none => rw [hi] at h; simp at h
    | some fi =>
      rw [hi] at h
      simp only [Bool.and_eq_true] at h
      exact ⟨fi, rfl, Nat.le_of_ble_eq_true h.1.1, Nat.eq_of_beq_eq_true h.1.2⟩
  | g :: l, k, h, f + 1, fd, hf => by
    simp only [fieldSizes, Bool.and_eq_true] at h
    obtain ⟨fi, h1, h2, h3⟩ := fieldSizes_spec l (k + 1) h.2 f fd (by simpa using hf)
    exact ⟨fi, h1, h2, by rw [h3]; congr 1; omega⟩
theorem kindB_ok {P : Program} {k : TK} {n : Nat} {d : TypeDesc} (h : kindB P k n d = true) : kindOk P k n d := by
  unfold kindB at h
  split at h <;> simp only [kindOk]
  · rw [kindEq_eq h]
  · rw [Nat.eq_of_beq_eq_true h]
  · rw [Nat.eq_of_beq_eq_true h]
  · rename_i fs n fields
    simp only [Bool.and_eq_true] at h
    refine ⟨fields, rfl, offsEq_eq _ _ h.1, fun f fd hf => ?_⟩
    have := fieldSizes_spec _ 0 h.2 f fd (by simpa using hf)
    simpa using this
  · cases h
  · cases h
  · rename_i d h1 h2
    exact ⟨fun x e => h1 x e, fun a b e => h2 a b e⟩
  · cases h
theorem zeroB_ok : ∀ (t : Ty) (l r : List Value), zeroB t l = some r → l = zeroC t ++ r := by
  intro t
  induction t with
  | pair a b iha ihb =>
    intro l r h
    simp only [zeroB] at h
    obtain ⟨m, h1, h2⟩ := bind_some h
    rw [iha _ _ h1, ihb _ _ h2, zeroC, List.append_assoc]
  | unit => intro l r h; simp only [zeroB, Option.some.injEq] at h; simp [zeroC, h]
  | int k =>
    intro l r h
    simp only [zeroB] at h
    unfold zeroI at h
    split at h <;> try (cases h; done)
    obtain ⟨h1, h⟩ := bif_some h
    simp only [Bool.and_eq_true, decide_eq_true_eq] at h1
    cases h
    cases kindEq_eq h1.1
    simp [zeroC, h1.2]
  | bool =>
    intro l r h
    simp only [zeroB] at h
    unfold zeroBo at h
    split at h <;> try (cases h; done)
    cases h
    simp [zeroC]
  | str =>
    intro l r h
    simp only [zeroB] at h
    unfold zeroS at h
    split at h <;> try (cases h; done)
    rename_i s r'
    obtain ⟨h1, h⟩ := bif_some h
    cases h
    have : s = ByteArray.empty := by
      obtain ⟨⟨x⟩⟩ := s
      have h2 := Nat.eq_of_beq_eq_true h1
      have : x = [] := List.eq_nil_of_length_eq_zero h2
      subst this
      rfl
    rw [this]
    rfl
  | sl e ih =>
    intro l r h
    simp only [zeroB] at h
    unfold zeroSl at h
    split at h <;> try (cases h; done)
    cases h
    simp [zeroC]
theorem tiB_ok {P : Program} {t : Nat} {i : TI} (h : tiB P t i = true) : TiOk P t i := by
  unfold tiB at h
  split at h <;> try (cases h; done)
  rename_i info d h1 h2
  simp only [Bool.and_eq_true] at h
  obtain ⟨⟨⟨h3, h4⟩, h5⟩, h6⟩ := h
  refine ⟨info, d, h1, h2, Nat.eq_of_beq_eq_true h3, Nat.le_of_ble_eq_true h4, kindB_ok h5, fun hn => ?_⟩
  rw [hn, Nat.beq_refl] at h6
  simp only [cond_true] at h6
  cases hz : info.zero with
  | none => rw [hz] at h6; cases h6
  | some z =>
    rw [hz] at h6
    simp only at h6
    split at h6 <;> try (cases h6; done)
    rename_i h7
    have := zeroB_ok _ _ _ h7
    exact ⟨z, rfl, by simpa using this⟩
theorem tabB_ok {P : Program} : ∀ {T : Tab}, tabB P T = true → TabOk P T
  | [], _, t, i, h => by simp [Tab.get] at h
  | (k, x) :: r, hb, t, i, h => by
    simp only [tabB, Bool.and_eq_true] at hb
    simp only [Tab.get] at h
    cases he : Nat.beq k t with
    | true =>
      rw [he] at h
      simp only [cond_true, Option.some.injEq] at h
      subst h
      cases Nat.eq_of_beq_eq_true he
      exact tiB_ok hb.1
    | false =>
      rw [he] at h
      exact tabB_ok hb.2 t i h

/-! ### structs' equality -/
mutual
/-- the type reads as this kind of data, cell for cell -/
def flatB (P : Program) : Nat → Nat → Ty → Bool
  | 0, _, _ => false
  | d + 1, t, ty => match P.underlying t with
    | some (.int _) => (match ty with
      | .int _ => true
      | _ => false)
    | some .bool => (match ty with
      | .bool => true
      | _ => false)
    | some .string => (match ty with
      | .str => true
      | _ => false)
    | some (.struct fs) => !(P.stoodInHeld t) && flatFs P d fs.toList 0 ty
    | _ => false
def flatFs (P : Program) : Nat → List Field → Nat → Ty → Bool
  | 0, _, _, _ => false
  | _ + 1, [], _, ty => (match ty with
    | .unit => true
    | _ => false)
  | d + 1, [f], off, ty => Nat.beq f.offset off && f.name != "_" && (match P.info? f.type with
    | some fi => Nat.beq fi.size ty.n
    | none => false) && flatB P d f.type ty
  | d + 1, f :: g :: fs, off, .pair a b => Nat.beq f.offset off && f.name != "_" && (match P.info? f.type with
    | some fi => Nat.beq fi.size a.n
    | none => false) && flatB P d f.type a && flatFs P d (g :: fs) (off + a.n) b
  | _ + 1, _ :: _ :: _, _, _ => false
end
def eqB (P : Program) : Tab → Bool
  | [] => true
  | (t, i) :: r => (!(isStruct i.kind && noSl i.ty) || (!(P.eqGuardType P.depth t) && flatB P 9000 t i.ty && (match P.underlying t with
    | some (.struct _) => true
    | _ => false))) && eqB P r

theorem fitsT_app : ∀ (t : Ty) (l r s : List TV), fitsT t l = some r → fitsT t (l ++ s) = some (r ++ s) := by
  intro t
  induction t with
  | pair a b iha ihb =>
    intro l r s h
    simp only [fitsT] at h ⊢
    obtain ⟨m, h1, h2⟩ := bind_some h
    rw [iha _ _ s h1, Option.bind_some, ihb _ _ s h2]
  | unit => intro l r s h; simp only [fitsT, Option.some.injEq] at h ⊢; rw [h]
  | int k =>
    intro l r s h
    simp only [fitsT] at h ⊢
    unfold fitI at h
    split at h <;> try (cases h; done)
    obtain ⟨h1, h⟩ := bif_some h
    cases h
    simp [fitI, h1]
  | bool =>
    intro l r s h
    simp only [fitsT] at h ⊢
    unfold fitB at h
    split at h <;> try (cases h; done)
    cases h
    rfl
  | str =>
    intro l r s h
    simp only [fitsT] at h ⊢
    unfold fitS at h
    split at h <;> try (cases h; done)
    cases h
    rfl
  | sl e ih => intro l r s h; simp [fitsT] at h
theorem fitsT_split : ∀ (t : Ty) (l r : List TV), fitsT t l = some r → ∃ l1, l = l1 ++ r ∧ l1.length = t.n ∧ fitsT t l1 = some [] := by
  intro t
  induction t with
  | pair a b iha ihb =>
    intro l r h
    simp only [fitsT] at h
    obtain ⟨m, h1, h2⟩ := bind_some h
    obtain ⟨l1, rfl, e1, f1⟩ := iha _ _ h1
    obtain ⟨l2, rfl, e2, f2⟩ := ihb _ _ h2
    refine ⟨l1 ++ l2, by simp, by simp [Ty.n, e1, e2], ?_⟩
    simp only [fitsT]
    rw [fitsT_app a l1 [] l2 f1, Option.bind_some, List.nil_append, f2]
  | unit => intro l r h; simp only [fitsT, Option.some.injEq] at h; exact ⟨[], by simp [h], rfl, rfl⟩
  | int k =>
    intro l r h
    simp only [fitsT] at h
    unfold fitI at h
    split at h <;> try (cases h; done)
    rename_i k' x r'
    obtain ⟨h1, h⟩ := bif_some h
    cases h
    exact ⟨[.dat (.int k') x], rfl, rfl, by simp [fitsT, fitI, h1]⟩
  | bool =>
    intro l r h
    simp only [fitsT] at h
    unfold fitB at h
    split at h <;> try (cases h; done)
    rename_i x r'
    cases h
    exact ⟨[.dat .bool x], rfl, rfl, rfl⟩
  | str =>
    intro l r h
    simp only [fitsT] at h
    unfold fitS at h
    split at h <;> try (cases h; done)
    rename_i x r'
    cases h
    exact ⟨[.dat .str x], rfl, rfl, rfl⟩
  | sl e ih => intro l r h; simp [fitsT] at h

theorem eqCells_length : ∀ (l m : List TV) (b : Bool), eqCells l m = some b → l.length = m.length
  | [], [], _, _ => rfl
  | [], _ :: _, b, h => by simp [eqCells] at h
  | _ :: _, [], b, h => by simp [eqCells] at h
  | x :: l, y :: m, b, h => by
    simp only [eqCells] at h
    obtain ⟨c, _, h⟩ := bind_some h
    obtain ⟨d, hd, _⟩ := map_some h
    simp [eqCells_length l m d hd]
theorem eqCells_split : ∀ (l1 l2 m : List TV) (b : Bool), eqCells (l1 ++ l2) m = some b → ∃ m1 m2 b1 b2, m = m1 ++ m2 ∧ m1.length = l1.length ∧ eqCells l1 m1 = some b1 ∧ eqCells l2 m2 = some b2 ∧ b = (b1 && b2)
  | [], l2, m, b, h => ⟨[], m, true, b, rfl, rfl, rfl, h, by simp⟩
  | x :: l1, l2, [], b, h => by simp [eqCells] at h
  | x :: l1, l2, y :: m, b, h => by
    simp only [List.cons_append, eqCells] at h
    obtain ⟨c, hc, h⟩ := bind_some h
    obtain ⟨d, hd, rfl⟩ := map_some h
    obtain ⟨m1, m2, b1, b2, rfl, e1, e2, e3, rfl⟩ := eqCells_split l1 l2 m d hd
    exact ⟨y :: m1, m2, c && b1, b2, rfl, by simp [e1], by simp [eqCells, hc, e2], e3, by rw [Bool.and_assoc]⟩

section
variable {P : Program} {μ : Nat → Option Loc} {X : Nat → Prop} {w : World}

/-- a part of a struct's cells as a value -/
theorem part_struct {t n off : Nat} {fs : Array Field} {info : TypeInfo} (hd : P.underlying t = some (.struct fs)) (hi : P.info? t = some info) (hn : info.size = n) (xs : Array Value) :
    (part t xs off).run P w = .ok (.agg (xs.extract off (off + n))) w := by
  simp [part, isAgg, run_underlying hd, sizeOf, typeInfo, hi, hn]
theorem part_other {t off : Nat} {d : TypeDesc} (hd : P.underlying t = some d) (hna : ∀ a b, d ≠ .array a b) (hns : ∀ x, d ≠ .struct x) (xs : Array Value) (h1 : off < xs.size) :
    (part t xs off).run P w = .ok (xs.getD off undef) w := by
  cases d <;> first
    | exact absurd rfl (hna _ _)
    | exact absurd rfl (hns _)
    | simp [part, isAgg, run_underlying hd, h1]

theorem flat_ok : ∀ (d : Nat),
    (∀ (t : Nat) (ty : Ty), flatB P d t ty = true → ∀ (D : Nat), d ≤ D → ∀ (l m : List TV) (b : Bool), fitsT ty l = some [] → eqCells l m = some b →
      (∃ fs : Array Field, P.underlying t = some (.struct fs) ∧ ∀ xs ys : Array Value, relVs μ w.heap X l xs.toList → relVs μ w.heap X m ys.toList → (Op.equalIn D t (.agg xs) (.agg ys)).run P w = .ok b w) ∨
      (∃ dd, P.underlying t = some dd ∧ (∀ x, dd ≠ .struct x) ∧ (∀ x y, dd ≠ .array x y) ∧ ∃ x y, l = [x] ∧ m = [y] ∧ ∀ u v, relV μ w.heap X x u → relV μ w.heap X y v → (Op.equalIn D t u v).run P w = .ok b w)) ∧
    (∀ (fs : List Field) (off : Nat) (ty : Ty), flatFs P d fs off ty = true → ∀ (D : Nat), d ≤ D + 1 → ∀ (l m : List TV) (b : Bool), fitsT ty l = some [] → eqCells l m = some b → ∀ xs ys : Array Value,
      relVs μ w.heap X l (xs.toList.drop off) → relVs μ w.heap X m (ys.toList.drop off) → (Op.eqFields D xs ys fs).run P w = .ok b w)
  | 0 => ⟨fun t ty h => by simp [flatB] at h, fun fs off ty h => by simp [flatFs] at h⟩
  | d + 1 => by
    obtain ⟨ih1, ih2⟩ := flat_ok d
    -- one field, and what comes behind it
    have one : ∀ (f : Field) (a : Ty) (off D : Nat), f.offset = off → f.name ≠ "_" → (∃ fi, P.info? f.type = some fi ∧ fi.size = a.n) → flatB P d f.type a = true → d ≤ D → ∀ (l1 l2 m1 m2 : List TV) (b1 : Bool), fitsT a l1 = some [] → l1.length = a.n → eqCells l1 m1 = some b1 →
        ∀ xs ys : Array Value, relVs μ w.heap X (l1 ++ l2) (xs.toList.drop off) → relVs μ w.heap X (m1 ++ m2) (ys.toList.drop off) →
        ∃ u v, (part f.type xs f.offset).run P w = .ok u w ∧ (part f.type ys f.offset).run P w = .ok v w ∧ (Op.equalIn D f.type u v).run P w = .ok b1 w ∧ relVs μ w.heap X l2 (xs.toList.drop (off + a.n)) ∧ relVs μ w.heap X m2 (ys.toList.drop (off + a.n)) := by
      intro f a off D e1 e2 ⟨fi, e3, e4⟩ hf hD l1 l2 m1 m2 b1 h1 h2 h3 xs ys h4 h5
      have hml : m1.length = a.n := by rw [← h2]; exact (eqCells_length _ _ _ h3).symm
      have x1 := relVs_take a.n _ _ h4
      have x2 := relVs_drop a.n _ _ h4
      have y1 := relVs_take a.n _ _ h5
      have y2 := relVs_drop a.n _ _ h5
      rw [List.take_append_of_le_length (by omega), List.take_of_length_le (by omega)] at x1 y1
      rw [List.drop_append_of_le_length (by omega), List.drop_of_length_le (by omega), List.nil_append, List.drop_drop] at x2 y2
      subst e1
      have ext : ∀ zs : Array Value, (zs.extract f.offset (f.offset + a.n)).toList = (zs.toList.drop f.offset).take a.n := by
        intro zs
        rw [Array.toList_extract, List.extract_eq_take_drop]
        congr 1
        omega
      rcases ih1 f.type a hf D hD l1 m1 b1 h1 h3 with ⟨fs, g1, g2⟩ | ⟨dd, g1, g2, g2', x, y, rfl, rfl, g3⟩
      · refine ⟨_, _, part_struct g1 e3 e4 xs, part_struct g1 e3 e4 ys, ?_, x2, y2⟩
        exact g2 _ _ (by rw [ext]; exact x1) (by rw [ext]; exact y1)
      · have sz : ∀ (zs : Array Value) (z : TV), relVs μ w.heap X [z] ((zs.toList.drop f.offset).take a.n) → f.offset < zs.size ∧ relV μ w.heap X z (zs.getD f.offset undef) := by
          intro zs z hz
          simp only [relVs] at hz
          obtain ⟨v, r, e5, e6, rfl⟩ := hz
          have hlen := congrArg List.length e5
          simp at hlen
          have hlt : f.offset < zs.size := by omega
          refine ⟨hlt, ?_⟩
          have := congrArg (fun l : List Value => l[0]?) e5
          simp only [List.getElem?_take, List.getElem?_drop, List.getElem?_cons_zero] at this
          have hpos : 0 < a.n := by simp at h2; omega
          rw [if_pos hpos] at this
          simp only [Nat.add_zero, Array.getElem?_toList] at this
          rw [Array.getD_eq_getD_getElem?, this]
          exact e6
        obtain ⟨s1, s2⟩ := sz xs x x1
        obtain ⟨s3, s4⟩ := sz ys y y1
        exact ⟨_, _, part_other g1 g2' g2 xs s1, part_other g1 g2' g2 ys s3, g3 _ _ s2 s4, x2, y2⟩
    constructor
    · intro t ty h D hD l m b h1 h2
      obtain ⟨D', rfl⟩ : ∃ k, D = k + 1 := ⟨D - 1, by omega⟩
      simp only [flatB] at h
      cases hu : P.underlying t with
      | none => rw [hu] at h; cases h
      | some dd =>
        rw [hu] at h
        cases dd <;> simp only at h <;> try (cases h; done)
        case int k =>
          cases ty <;> simp only at h <;> try (cases h; done)
          right
          simp only [fitsT] at h1
          unfold fitI at h1
          split at h1 <;> try (cases h1; done)
          rename_i k2 a r
          obtain ⟨_, h1⟩ := bif_some h1
          cases h1
          cases m with
          | nil => simp [eqCells] at h2
          | cons y m =>
            simp only [eqCells] at h2
            obtain ⟨c, hc, h2⟩ := bind_some h2
            obtain ⟨e, he, rfl⟩ := map_some h2
            have hm : m = [] := by have := eqCells_length _ _ _ he; simpa using this.symm
            subst hm
            simp only [eqCells, Option.some.injEq] at he
            subst he
            refine ⟨_, rfl, by simp, by simp, _, y, rfl, rfl, fun u v hu' hv' => ?_⟩
            unfold eqCell at hc
            split at hc <;> try (cases hc; done)
            · rename_i k3 a3 k4 a4 he
              simp only [TV.dat.injEq, Ty.int.injEq] at he
              obtain ⟨rfl, he⟩ := he
              cases he
              obtain ⟨hk, hc⟩ := bif_some hc
              cases hc
              cases kindEq_eq hk
              rw [int_val hu', int_val hv', run_equalIn_int w D' t _ _ _ _ hu, Bool.and_true]
              rfl
            · rename_i he; simp at he
            · rename_i he; simp at he
        case bool =>
          cases ty <;> simp only at h <;> try (cases h; done)
          right
          simp only [fitsT] at h1
          unfold fitB at h1
          split at h1 <;> try (cases h1; done)
          rename_i a r
          cases h1
          cases m with
          | nil => simp [eqCells] at h2
          | cons y m =>
            simp only [eqCells] at h2
            obtain ⟨c, hc, h2⟩ := bind_some h2
            obtain ⟨e, he, rfl⟩ := map_some h2
            have hm : m = [] := by have := eqCells_length _ _ _ he; simpa using this.symm
            subst hm
            simp only [eqCells, Option.some.injEq] at he
            subst he
            refine ⟨_, rfl, by simp, by simp, _, y, rfl, rfl, fun u v hu' hv' => ?_⟩
            unfold eqCell at hc
            split at hc <;> try (cases hc; done)
            · rename_i he; simp at he
            · rename_i a3 a4 he
              simp only [TV.dat.injEq, heq_eq_eq, true_and] at he
              subst he
              cases hc
              rw [bool_val hu', bool_val hv', run_equalIn_bool' w D' t _ _ hu, Bool.and_true]
            · rename_i he; simp at he
        case string =>
          cases ty <;> simp only at h <;> try (cases h; done)
          right
          simp only [fitsT] at h1
          unfold fitS at h1
          split at h1 <;> try (cases h1; done)
          rename_i a r
          cases h1
          cases m with
          | nil => simp [eqCells] at h2
          | cons y m =>
            simp only [eqCells] at h2
            obtain ⟨c, hc, h2⟩ := bind_some h2
            obtain ⟨e, he, rfl⟩ := map_some h2
            have hm : m = [] := by have := eqCells_length _ _ _ he; simpa using this.symm
            subst hm
            simp only [eqCells, Option.some.injEq] at he
            subst he
            refine ⟨_, rfl, by simp, by simp, _, y, rfl, rfl, fun u v hu' hv' => ?_⟩
            unfold eqCell at hc
            split at hc <;> try (cases hc; done)
            · rename_i he; simp at he
            · rename_i he; simp at he
            · rename_i a3 a4 he
              simp only [TV.dat.injEq, heq_eq_eq, true_and] at he
              subst he
              cases hc
              rw [str_val hu', str_val hv', run_equalIn_string w D' t _ _ hu, Bool.and_true]
              rfl
        case struct fs =>
          left
          simp only [Bool.and_eq_true, Bool.not_eq_true'] at h
          refine ⟨fs, rfl, fun xs ys hx hy => ?_⟩
          have hfo : P.fieldsOf t = fs := by simp [Program.fieldsOf, hu]
          rw [run_equalIn_struct w D' t xs ys (by rw [hfo]; exact hu) h.1, hfo]
          exact ih2 fs.toList 0 ty h.2 D' (by omega) l m b h1 h2 xs ys (by simpa using hx) (by simpa using hy)
    · intro fs off ty h D hD l m b h1 h2 xs ys hx hy
      cases fs with
      | nil =>
        cases ty <;> simp only [flatFs] at h <;> try (cases h; done)
        simp only [fitsT, Option.some.injEq] at h1
        subst h1
        cases m with
        | nil => simp only [eqCells, Option.some.injEq] at h2; subst h2; simp [Op.eqFields]
        | cons y m => simp [eqCells] at h2
      | cons f fs =>
        cases fs with
        | nil =>
          simp only [flatFs, Bool.and_eq_true, bne_iff_ne, ne_eq] at h
          obtain ⟨⟨⟨g1, g2⟩, g3⟩, g4⟩ := h
          have g3' : ∃ fi, P.info? f.type = some fi ∧ fi.size = ty.n := by
            cases hi : P.info? f.type with
            | none => rw [hi] at g3; cases g3
            | some fi => rw [hi] at g3; exact ⟨fi, rfl, Nat.eq_of_beq_eq_true g3⟩
          obtain ⟨l1, e1, e2, e3⟩ := fitsT_split _ _ _ h1
          rw [List.append_nil] at e1
          subst e1
          obtain ⟨u, v, p1, p2, p3, _, _⟩ := one f ty off D (Nat.eq_of_beq_eq_true g1) g2 g3' g4 (by omega) l [] m [] b h1 e2 h2 xs ys (by simpa using hx) (by simpa using hy)
          simp only [Op.eqFields, if_pos g2, Sem.run_bind, p1, p2, p3, Result.andThen_ok]
          cases b <;> simp
        | cons g fs =>
          cases ty <;> simp only [flatFs] at h <;> try (cases h; done)
          rename_i a b'
          simp only [Bool.and_eq_true, bne_iff_ne, ne_eq] at h
          obtain ⟨⟨⟨⟨g1, g2⟩, g3⟩, g4⟩, g5⟩ := h
          have g3' : ∃ fi, P.info? f.type = some fi ∧ fi.size = a.n := by
            cases hi : P.info? f.type with
            | none => rw [hi] at g3; cases g3
            | some fi => rw [hi] at g3; exact ⟨fi, rfl, Nat.eq_of_beq_eq_true g3⟩
          simp only [fitsT] at h1
          obtain ⟨r, r1, r2⟩ := bind_some h1
          obtain ⟨l1, rfl, e2, e3⟩ := fitsT_split _ _ _ r1
          obtain ⟨m1, m2, b1, b2, rfl, e4, e5, e6, rfl⟩ := eqCells_split _ _ _ _ h2
          obtain ⟨u, v, p1, p2, p3, p4, p5⟩ := one f a off D (Nat.eq_of_beq_eq_true g1) g2 g3' g4 (by omega) l1 r m1 m2 b1 e3 e2 e5 xs ys hx hy
          have := ih2 (g :: fs) (off + a.n) b' g5 D (by omega) r m2 b2 r2 e6 xs ys p4 p5
          rw [Op.eqFields]
          simp only [if_pos g2, Sem.run_bind, p1, p2, p3, Result.andThen_ok]
          cases b1
          · simp
          · simpa using this
end

theorem eqB_ok {P : Program} : ∀ {T : Tab}, eqB P T = true → EqOk P T
  | [], _, t, i, h => by simp [Tab.get] at h
  | (k, x) :: r, hb, t, i, h => by
    simp only [eqB, Bool.and_eq_true] at hb
    simp only [Tab.get] at h
    cases he : Nat.beq k t with
    | true =>
      rw [he] at h
      simp only [cond_true, Option.some.injEq] at h
      subst h
      cases Nat.eq_of_beq_eq_true he
      intro hst μ X w l m vs us b hl hfit hc hv hu
      unfold fitsAll at hfit
      split at hfit <;> try (cases hfit; done)
      rename_i hf
      have hns : noSl x.ty = true := by
        have key : ∀ (t : Ty) (l r : List TV), fitsT t l = some r → noSl t = true := by
          intro t
          induction t with
          | pair a b iha ihb =>
            intro l r h
            simp only [fitsT] at h
            obtain ⟨m, h1, h2⟩ := bind_some h
            simp [noSl, iha _ _ h1, ihb _ _ h2]
          | sl e ih => intro l r h; simp [fitsT] at h
          | unit => intro _ _ _; rfl
          | int k => intro _ _ _; rfl
          | bool => intro _ _ _; rfl
          | str => intro _ _ _; rfl
        exact key _ _ _ hf
      have h1 := hb.1
      rw [hst, hns] at h1
      simp only [Bool.and_self, Bool.not_true, Bool.false_or, Bool.and_eq_true, Bool.not_eq_true'] at h1
      obtain ⟨⟨h1, h2⟩, h3⟩ := h1
      refine ⟨h1, ?_⟩
      rcases (flat_ok (P := P) (μ := μ) (X := X) (w := w) 9000).1 k x.ty h2 10000 (by omega) l m b hf hc with ⟨fs, g1, g2⟩ | ⟨dd, g1, g2, g2', z, y, rfl, rfl, g3⟩
      · exact g2 vs us hv hu
      · exfalso
        rw [g1] at h3
        cases dd <;> first | exact absurd rfl (g2 _) | cases h3
    | false =>
      rw [he] at h
      exact eqB_ok hb.2 t i h

end Go.VI
namespace Go.VI
open Go Go.RowKit

/-- a slice of numbers that came in -/
def IsRow (k : IntKind) (w : World) (a : Option Addr) (len cap : Nat) (zs : List Int) : Prop :=
  (a = none ∧ len = 0 ∧ cap = 0 ∧ zs = []) ∨
  ∃ x, a = some x ∧ len ≤ cap ∧ cap ≤ maxLen ∧ zs.length = cap ∧ (∀ i, i < zs.length → w.cell? (x.add i) = some (.int k (zs.getD i 0))) ∧ ∀ n ∈ zs, (Lit.int k n).wf = true

theorem row_rel {k : IntKind} {w : World} {a : Option Addr} {len cap : Nat} {zs : List Int} (h : IsRow k w a len cap zs) {X : Nat → Prop} (hX : ∀ b, ¬ X b) : relC w.heap X (.sl (.int k)) (zs.take len) [.slice a len cap] := by
  rcases h with ⟨rfl, rfl, rfl, rfl⟩ | ⟨x, rfl, h1, h2, h3, h4, h5⟩
  · exact ⟨none, 0, rfl, Nat.le_refl _, .inl rfl⟩
  · have hl : (zs.take len).length = len := by simp; omega
    refine ⟨some x, cap, by rw [hl], by rw [hl]; exact h1, ?_⟩
    by_cases hz : len = 0
    · left; rw [hz]; rfl
    · right
      have h0 := h4 0 (by omega)
      obtain ⟨b, off, spot⟩ := x
      have hs : spot = none := by simpa [Addr.add] using World.cell?_spot h0
      subst hs
      have hb : ∃ c el fr, w.heap[b]? = some (.cells c el fr) := by
        have h0' : w.cell? ⟨b, off, none⟩ = some (.int k (zs.getD 0 0)) := h0
        unfold World.cell? at h0'
        simp only at h0'
        split at h0'
        · rename_i c el fr hh; exact ⟨c, el, fr, hh⟩
        · cases h0'
      obtain ⟨c, el, fr, hh⟩ := hb
      refine ⟨b, off, c, el, fr, rfl, hh, hX b, ?_⟩
      have cell : ∀ i, i < zs.length → c[off + i]? = some (.int k (zs.getD i 0)) := by
        intro i hi
        have h := h4 i hi
        have e : (⟨b, off, none⟩ : Addr).add i = ⟨b, off + i, none⟩ := Addr.add_lit ..
        rw [e] at h
        unfold World.cell? at h
        simp only [hh] at h
        simpa using h
      have key : ∀ (n m : Nat) (l : List Int), l.length = n → (∀ i, i < n → c[off + m + i]? = some (.int k (l.getD i 0))) → relL 1 (relC w.heap X (.int k)) l (c.toList.drop (off + m)) := by
        intro n
        induction n with
        | zero => intro m l hl hc; have := List.eq_nil_of_length_eq_zero hl; subst this; trivial
        | succ n ih =>
          intro m l hl hc
          cases l with
          | nil => simp at hl
          | cons y l =>
            have c0 := hc 0 (by omega)
            simp only [Nat.add_zero, List.getD_cons_zero] at c0
            have hlt : off + m < c.size := (Array.getElem?_eq_some_iff.1 c0).1
            have hd : c.toList.drop (off + m) = .int k y :: c.toList.drop (off + (m + 1)) := by
              rw [List.drop_eq_getElem_cons (by simpa using hlt)]
              have := (Array.getElem?_eq_some_iff.1 c0).2
              simp only [Array.getElem_toList, this]
              rfl
            rw [hd]
            refine ⟨by simp, by simp [relC], ?_⟩
            simp only [List.drop_succ_cons, List.drop_zero]
            exact ih (m + 1) l (by simpa using hl) fun i hi => by
              have := hc (i + 1) (by omega)
              simpa [Nat.add_assoc, Nat.add_comm, Nat.add_left_comm] using this
      have := key len 0 (zs.take len) hl (fun i hi => by
        rw [Nat.add_zero, cell i (by omega)]
        congr 2
        simp [List.getD_eq_getElem?_getD, hi])
      rw [Nat.add_zero] at this
      exact this

theorem law_walk {P : Program} {N : Nat} {tot : Bool} {F : ShsD [.dat (.sl (.int .u8))] → Option (ShsD [.dat .bool] × ShsD (outsOf [.dat (.sl (.int .u8))]))} (ok : FnOk P ⟨N, [.dat (.sl (.int .u8))], [.dat .bool], tot, F⟩)
    {w : World} {a : Option Addr} {len cap : Nat} {zs : List Int} (h : IsRow .u8 w a len cap zs) (hF : F (zs.take len, ()) = some ((true, ()), ())) :
    Calls P N #[.slice a len cap] w fun e w' => e = .returned (.bool true) ∧ Below w.heap.size w w' := by
  have := ok.calls w (fun _ => False) [.slice a len cap] [] (zs.take len, ()) ((true, ()), ()) (fun _ h => h.elim)
    ⟨_, _, [], [], rfl, rfl, ⟨row_rel h (by simp), rfl⟩, rfl, rfl⟩ List.nodup_nil (by simp) hF
  refine this.mono ?_
  rintro e w' ⟨us, b1, b2, rfl, h1, h2, h3, h4, h5, h6, h7, h8, h9, h10⟩
  obtain ⟨v, r, c1, c2, rfl, _, h11, h12, _⟩ := h6
  obtain ⟨h13, _⟩ := h11
  simp only [relC, List.cons.injEq, and_true] at h13
  subst h13; subst h12
  exact ⟨rfl, h1, h2, h3, h4, fun k hk => h5 k hk (by simp)⟩

theorem row_u8 {w : World} {a : Option Addr} {len cap : Nat} {zs : List Int} (h : IsRow .u8 w a len cap zs) : (zs.take len).length ≤ maxLen ∧ ∀ n ∈ zs.take len, 0 ≤ n ∧ n ≤ 255 := by
  rcases h with ⟨rfl, rfl, rfl, rfl⟩ | ⟨x, rfl, h1, h2, h3, h4, h5⟩
  · simp
  · refine ⟨by simp; omega, fun n hn => ?_⟩
    have := bounds_u8 (h5 n (List.mem_of_mem_take hn))
    omega
end Go.VI
