/- The abstract machine, twelfth part: states, regions, code. -/
import Derived.Test.YtgihcmeifafnjaaCAbsK
set_option linter.unusedVariables false
set_option linter.unusedSimpArgs false
namespace Go.Abs
open Go

def opd (s : S) : Operand → D
  | .tmp t => s.env t
  | .const (.agg cs) => if (cs.toList.map cellD).all isCell then .agg (cs.toList.map cellD) else .junk
  | .const v => cellD v
  | .func f => .fn f [] []
  | .global _ => .junk

theorem opd_ok {F : Fr} {s : S} {a : Act} {w : World} {g : Nat → Option GI} {A : Nat → Prop} (h : ∀ t, Tv g A w (s.env t) (a.tmps.getD t undef)) (x : Operand) : Tv g A w (opd s x) (a.eval x) := by
  have hc : ∀ v : Value, Tv g A w (cellD v) v := by
    intro v
    by_cases hh : isCell (cellD v) = true
    · exact .c _ _ (.c _ _ (cellD_ok hh))
    · have : cellD v = .junk := by
        unfold cellD at hh ⊢
        split
        · simp [isCell] at hh
        · split
          · rename_i hf; simp [hf, isCell] at hh
          · rfl
      rw [this]; exact .junk _
  cases x with
  | tmp t => exact h t
  | const v =>
    cases v with
    | agg cs =>
      simp only [opd]
      split
      · rename_i hall
        refine .agg _ _ (by simp) fun i d u hd hu => ?_
        simp only [List.getElem?_map, Array.getElem?_toList] at hd
        rw [hu] at hd
        simp only [Option.map_some, Option.some.injEq] at hd
        subst hd
        refine .c _ _ (cellD_ok ?_)
        rw [List.all_eq_true] at hall
        exact hall _ (List.mem_map.2 ⟨u, by simpa using Array.mem_of_getElem? hu, rfl⟩)
      · exact .junk _
    | bool b => exact hc (.bool b)
    | int k b => exact hc (.int k b)
    | float k b => exact hc (.float k b)
    | complex k b c => exact hc (.complex k b c)
    | string b => exact hc (.string b)
    | pointer b => exact hc (.pointer b)
    | slice b c d => exact hc (.slice b c d)
    | map b => exact hc (.map b)
    | chan b => exact hc (.chan b)
    | func b c d => exact hc (.func b c d)
    | nilFunc => exact hc .nilFunc
    | iface b c => exact hc (.iface b c)
    | nilIface => exact hc .nilIface
    | tuple b => exact hc (.tuple b)
  | func f => exact .c _ _ (.c _ _ (.fn f [] [] #[] #[] rfl rfl (by simp) (by simp)))
  | global g => exact .junk _

def S.put (s : S) (dst : Option Tmp) (d : D) (M : Mem) : S :=
  { s with env := (match dst with | some t => upd s.env t d | none => s.env), mem := M }

theorem Inv.put {F : Fr} {s : S} {a : Act} {w w' : World} {g g' : Nat → Option GI} {d : D} {v : Value} {M' : Mem} {dst : Option Tmp} (hd : a.defers = []) (hsz : a.tmps.size = F.n)
    (henv : ∀ t, Tv g (Ok F g s.mem w) w (s.env t) (a.tmps.getD t undef)) (hM : MemOk F g' M' w') (hL : Le g (Ok F g s.mem w) w g' (Ok F g' M' w') w') (hv : Tv g' (Ok F g' M' w') w' d v)
    (hlt : ∀ t, dst = some t → t < F.n) : Inv F (s.put dst d M') (a.put dst v) w' := by
  refine ⟨?_, ?_, g', hM, fun t => ?_⟩
  · cases dst <;> exact hd
  · cases dst <;> simp [Act.put, hsz]
  · cases dst with
    | none => exact (henv t).mono hL
    | some t' =>
      simp only [S.put, Act.put, upd]
      by_cases ht : t = t'
      · subst ht
        rw [if_pos rfl]
        have := hlt t rfl
        simp [Array.getD, this, hsz]
        exact hv
      · rw [if_neg ht]
        have e : (a.tmps.setIfInBounds t' v).getD t undef = a.tmps.getD t undef := by
          simp only [Array.getD_eq_getD_getElem?, Array.getElem?_setIfInBounds]
          rw [if_neg (fun h => ht h.symm)]
        rw [e]
        exact (henv t).mono hL

def stepOp (P : Program) (K : Kt) (n np : Nat) (ops : Array Oper) (o : Oper) (fid : Nat) (s : S) (Q : S → Prop) : Prop :=
  (match o.dst with | some t => t < n | none => True) ∧
  match o.guard with
  | none => sem P K np o.op (opd s) s.mem fid fun d M => Q (s.put o.dst d M)
  | some (j, want) => match (ops[j]?).bind (·.dst) with
    | some t => match s.env t with
      | .v (.bool b) => (b = want → sem P K np o.op (opd s) s.mem fid fun d M => Q (s.put o.dst d M)) ∧ (b = !want → Q (s.put o.dst (.tup []) s.mem))
      | .tup [] => Q (s.put o.dst (.tup []) s.mem)
      | _ => False
    | none => False

theorem step_ok {P : Program} {K : Kt} (hK : KOk P K) {F : Fr} {s : S} {a : Act} {w : World} {ops : Array Oper} {o : Oper} {fid : Nat} {Q : S → Prop} (hI : Inv F s a w) (h : stepOp P K F.n F.np ops o fid s Q)
    {K' : Act → World → Prop} {QQ : Exit → Act → World → Prop} (hk : ∀ s' a' w', Inv F s' a' w' → Q s' → K' a' w') :
    if Region.wanted o (yielded ops a.tmps) then o.wp P a w K' QQ else K' (a.put o.dst undef) w := by
  obtain ⟨hd, hsz, g, hM, henv⟩ := hI
  obtain ⟨hdst, h⟩ := h
  have hlt : ∀ t, o.dst = some t → t < F.n := by
    intro t ht; rw [ht] at hdst; exact hdst
  have hskip : Q (s.put o.dst (.tup []) s.mem) → K' (a.put o.dst undef) w := fun hq =>
    hk _ _ _ (Inv.put hd hsz henv hM (Le.refl _ _ _) (.tup [] #[] rfl (by simp)) hlt) hq
  have hrun : (sem P K F.np o.op (opd s) s.mem fid fun d M => Q (s.put o.dst d M)) → o.wp P a w K' QQ := by
    intro h
    have := op_ok hK hM (o := o) (ρ := opd s) (ev := a.eval) (fun x => opd_ok (F := F) henv x) h
    unfold Oper.wp
    have put : ∀ {v w'}, SR F g s.mem w (fun d M => Q (s.put o.dst d M)) v w' → K' (a.put o.dst v) w' := by
      rintro v w' ⟨d, M', g', hq, hM', hL, hv⟩
      exact hk _ _ _ (Inv.put hd hsz henv hM' hL hv hlt) hq
    rcases this with ⟨v, w', he, hs⟩ | ⟨w', he, hs⟩ | ⟨f, args, he, hc⟩
    · rw [he]; exact put hs
    · rw [he]; exact put hs
    · rw [he]
      exact hc.mono (by rintro e w' ⟨v, rfl, hs⟩; exact put hs)
  split at h
  · rename_i hg
    rw [if_pos (by simp [Region.wanted, hg])]
    exact hrun h
  · rename_i j want hg
    split at h
    · rename_i t ht
      have ht' := henv t
      split at h
      · rename_i b hb
        rw [hb] at ht'
        have hval : a.tmps.getD t undef = .bool b := by
          cases ht'.cell rfl with | c _ _ hr => generalize a.tmps.getD t undef = q at hr; cases hr; rfl
        have hy : yielded ops a.tmps j = some b := by
          unfold yielded
          rw [ht]
          simp only [Option.bind_some]
          have : a.tmps[t]? = some (.bool b) := by
            rw [Array.getD_eq_getD_getElem?] at hval
            cases hq : a.tmps[t]? with
            | none => rw [hq] at hval; simp [undef] at hval
            | some q => rw [hq] at hval; simp at hval; rw [hval]
          rw [this]
        by_cases hbw : b = want
        · rw [if_pos (by simp [Region.wanted, hg, hy, hbw])]
          exact hrun (h.1 hbw)
        · rw [if_neg (by simp [Region.wanted, hg, hy, hbw])]
          exact hskip (h.2 (by cases b <;> cases want <;> simp_all))
      · rename_i hb
        rw [hb] at ht'
        have hval : a.tmps.getD t undef = .tuple #[] := by
          generalize a.tmps.getD t undef = q at ht'
          cases ht' with
          | c _ _ hh => cases hh with | c _ _ hh => cases hh
          | tup _ us hl hr => simp at hl; simp [hl]
        have hy : yielded ops a.tmps j = none := by
          unfold yielded
          rw [ht]
          simp only [Option.bind_some]
          rw [Array.getD_eq_getD_getElem?] at hval
          cases hq : a.tmps[t]? with
          | none => rfl
          | some q => rw [hq] at hval; simp at hval; rw [hval]
        rw [if_neg (by simp [Region.wanted, hg, hy])]
        exact hskip h
      · exact h.elim
    · exact h.elim

/-- The operations of a region, in the order of the text. -/
def runOps (P : Program) (K : Kt) (n np : Nat) (ops : Array Oper) : List Oper → Nat → S → (S → Prop) → Prop
  | [], _, s, Q => Q s
  | o :: l, fid, s, Q => stepOp P K n np ops o fid s fun s' => runOps P K n np ops l (fid + 4) s' Q

theorem runOps_ok {P : Program} {K : Kt} (hK : KOk P K) {F : Fr} {ops : Array Oper} {QQ : Exit → Act → World → Prop} : ∀ (l : List Oper) (fid : Nat) (s : S) (a : Act) (w : World) (Q : S → Prop), Inv F s a w → runOps P K F.n F.np ops l fid s Q →
    (∀ s' a' w', Inv F s' a' w' → Q s' → QQ .normal a' w') → wpList P ops QQ l a w
  | [], fid, s, a, w, Q, hI, h, hk => hk _ _ _ hI h
  | o :: l, fid, s, a, w, Q, hI, h, hk => wpList_step fun K' hK' => step_ok hK hI h fun s' a' w' hI' h' => hK' _ _ (runOps_ok hK l _ s' a' w' Q hI' h' hk)

def Lift (F : Fr) (Q : Exit → S → Prop) : Exit → Act → World → Prop := fun e a w => ∃ s, Inv F s a w ∧ Q e s

/-- Code leads from a state to what Q says. -/
def AW (P : Program) (n np : Nat) (c : Code) (Q : Exit → S → Prop) (s : S) : Prop :=
  ∀ F a w, F.n = n → F.np = np → Inv F s a w → c.wp P (Lift F Q) a w

section rules
variable {P : Program} {n np : Nat} {Q : Exit → S → Prop} {s : S}

theorem aw_region {K : Kt} (hK : KOk P K) {id : Nat} {ops : List Oper} (h : runOps P K n np ops.toArray ops s.nx s fun s' => Q .normal { s' with nx := s.nx + 4 * ops.length }) : AW P n np (.region id ops.toArray false) Q s := by
  intro F a w hn hnp hI
  subst hn; subst hnp
  refine wp_region_lit ?_
  refine runOps_ok hK ops s.nx s a w _ hI h fun s' a' w' hI' hq => ⟨_, ?_, hq⟩
  exact hI'

theorem aw_mono {c : Code} {Q' : Exit → S → Prop} (h : AW P n np c Q s) (hq : ∀ e s, Q e s → Q' e s) : AW P n np c Q' s :=
  fun F a w h1 h2 hI => wp_mono (h F a w h1 h2 hI) fun e a w ⟨s', i, q⟩ => ⟨s', i, hq _ _ q⟩

def thenQ (R : S → Prop) (Q : Exit → S → Prop) : Exit → S → Prop
  | .normal, s => R s
  | e, s => Q e s

theorem aw_seq {x y : Code} (h : AW P n np x (thenQ (AW P n np y Q) Q) s) : AW P n np (.seq x y) Q s := by
  intro F a w hn hnp hI
  refine wp_seq (wp_mono (h F a w hn hnp hI) ?_)
  rintro e a' w' ⟨s', hI', hq⟩
  cases e with
  | normal => exact hq F a' w' hn hnp hI'
  | _ => exact ⟨s', hI', hq⟩

/-- A cut: what holds between two pieces. -/
theorem aw_cut (R : S → Prop) {x y : Code} (h1 : AW P n np x (thenQ R Q) s) (h2 : ∀ s', R s' → AW P n np y Q s') : AW P n np (.seq x y) Q s :=
  aw_seq (aw_mono h1 fun e s' hq => by cases e <;> first | exact h2 _ hq | exact hq)

theorem aw_skip (h : Q .normal s) : AW P n np .skip Q s := fun F a w _ _ hI => wp_skip ⟨s, hI, h⟩
theorem aw_ret (h : Q .ret s) : AW P n np .ret Q s := fun F a w _ _ hI => wp_ret ⟨s, hI, h⟩
theorem aw_exit {id : Nat} (h : Q (.exit id) s) : AW P n np (.exit id) Q s := fun F a w _ _ hI => wp_exit ⟨s, hI, h⟩

theorem aw_cond {c : Operand} {x y : Code} {b : Bool} (hc : opd s c = .v (.bool b)) (ht : b = true → AW P n np x Q s) (hf : b = false → AW P n np y Q s) : AW P n np (.cond c x y) Q s := by
  intro F a w hn hnp hI
  have he : a.eval c = .bool b := by
    obtain ⟨_, _, g, _, henv⟩ := hI
    have := opd_ok (F := F) henv c
    rw [hc] at this
    cases this.cell rfl with | c _ _ hr => generalize a.eval c = q at hr; cases hr; rfl
  exact wp_cond_split he (fun h => ht h F a w hn hnp hI) (fun h => hf h F a w hn hnp hI)

def blockQ (id : Nat) (Q : Exit → S → Prop) : Exit → S → Prop
  | .exit id', s => if id' = id then Q .normal s else Q (.exit id') s
  | e, s => Q e s

theorem aw_block {id : Nat} {c : Code} (h : AW P n np c (blockQ id Q) s) : AW P n np (.block id c) Q s := by
  intro F a w hn hnp hI
  refine wp_block (wp_mono (h F a w hn hnp hI) ?_)
  rintro e a' w' ⟨s', hI', hq⟩
  cases e with
  | exit id' =>
    simp only [blockQ] at hq
    simp only [Exit.inBlock]
    split
    · rename_i he; rw [if_pos he] at hq; exact ⟨s', hI', hq⟩
    · rename_i he; rw [if_neg he] at hq; exact ⟨s', hI', hq⟩
  | _ => exact ⟨s', hI', hq⟩

/-- One state says no more than another one. -/
def Weak (n np : Nat) (s t : S) : Prop := ∀ F a w, F.n = n → F.np = np → Inv F s a w → Inv F t a w

theorem Weak.refl (s : S) : Weak n np s s := fun _ _ _ _ _ h => h
theorem Weak.trans {s t u : S} (h : Weak n np s t) (k : Weak n np t u) : Weak n np s u := fun F a w h1 h2 hI => k F a w h1 h2 (h F a w h1 h2 hI)

theorem aw_weak {c : Code} {t : S} (hw : Weak n np s t) (h : AW P n np c Q t) : AW P n np c Q s := fun F a w h1 h2 hI => h F a w h1 h2 (hw F a w h1 h2 hI)

/-- A loop, its invariant and measure over values of the prover's own. -/
theorem wp_loop_at {α : Type} {c : Code} {Q : Exit → Act → World → Prop} (I : α → Act → World → Prop) (μ : α → Nat) (x0 : α) {a : Act} {w : World} (h0 : I x0 a w)
    (round : ∀ x a w, I x a w → c.wp P (Exit.then (fun a' w' => ∃ x', I x' a' w' ∧ μ x' < μ x) Q) a w) : (Code.loop c).wp P Q a w := by
  intro b k cs
  have key : ∀ m x a w, μ x = m → I x a w → ∃ e a' w', Q e a' w' ∧ Arrives P (lone (b.at a (.code c :: .inLoop c :: k)) cs w) b k cs e a' w' := by
    intro m
    induction m using Nat.strongRecOn with
    | _ m ih =>
      intro x a w hm hI
      obtain ⟨e, a₁, w₁, hq, harr⟩ := round x a w hI b (.inLoop c :: k) cs
      cases e with
      | normal =>
        obtain ⟨x', hI₁, hlt⟩ := hq
        obtain ⟨e₂, a₂, w₂, hq₂, harr₂⟩ := ih (μ x') (hm ▸ hlt) x' a₁ w₁ rfl hI₁
        exact ⟨e₂, a₂, w₂, hq₂, .of_steps (Steps.trans harr (.one step_inLoop)) harr₂⟩
      | exit id => exact ⟨_, a₁, w₁, hq, .pass (x := .inLoop c) rfl (fun _ _ => .inl (by simp)) harr⟩
      | goto l => exact ⟨_, a₁, w₁, hq, .pass (x := .inLoop c) rfl (fun _ _ => .inl (by simp)) harr⟩
      | ret => exact ⟨_, a₁, w₁, hq, .pass (x := .inLoop c) rfl (fun _ _ => .inl (by simp)) harr⟩
      | panic ch => exact ⟨_, a₁, w₁, hq, .pass (x := .inLoop c) rfl (fun _ _ => .inl (by simp)) harr⟩
      | outgrown => exact ⟨_, a₁, w₁, hq, .pass (x := .inLoop c) rfl (fun _ _ => .inl (by simp)) harr⟩
  obtain ⟨e, a', w', hq, harr⟩ := key _ x0 a w rfl h0
  exact ⟨e, a', w', hq, .of_steps (.one step_loop) harr⟩

theorem aw_loop {α : Type} (I : α → S) (inv : α → Prop) (μ : α → Nat) (x0 : α) {c : Code} (h0 : inv x0) (hs : Weak n np s (I x0))
    (round : ∀ x, inv x → AW P n np c (thenQ (fun s' => ∃ x', inv x' ∧ μ x' < μ x ∧ Weak n np s' (I x')) Q) (I x)) : AW P n np (.loop c) Q s := by
  intro F a w hn hnp hI
  refine wp_loop_at (fun x a w => inv x ∧ Inv F (I x) a w) μ x0 ⟨h0, hs F a w hn hnp hI⟩ fun x a w ⟨hx, hI⟩ => wp_mono (round x hx F a w hn hnp hI) ?_
  rintro e a' w' ⟨s', hI', hq⟩
  cases e with
  | normal =>
    obtain ⟨x', h1, h2, h3⟩ := hq
    exact ⟨x', ⟨h1, h3 F a' w' hn hnp hI'⟩, h2⟩
  | _ => exact ⟨s', hI', hq⟩

end rules
end Go.Abs
