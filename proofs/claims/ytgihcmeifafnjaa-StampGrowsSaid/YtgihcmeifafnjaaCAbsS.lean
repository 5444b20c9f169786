/- The abstract machine, nineteenth part: regions whose order is drawn. -/
import Derived.Test.YtgihcmeifafnjaaCAbsR
set_option linter.unusedVariables false
set_option linter.unusedSimpArgs false
namespace Go.Abs
open Go

theorem partsD_congr {ρ ρ' : Operand → D} {ps : Array (Nat × Operand)} (h : ∀ x ∈ ps.map (·.2), ρ' x = ρ x) : partsD ρ' ps = partsD ρ ps := by
  unfold partsD
  refine List.map_congr_left fun p hp => ?_
  obtain ⟨i, x⟩ := p
  simp only [h x (Array.mem_map.2 ⟨(i, x), by simpa using hp, rfl⟩)]
theorem mapD_congr {ρ ρ' : Operand → D} {ps : Array Operand} (h : ∀ x ∈ ps, ρ' x = ρ x) : ps.toList.map ρ' = ps.toList.map ρ :=
  List.map_congr_left fun x hx => h x (by simpa using hx)

theorem sem_congr {P : Program} {K : Kt} {np fid : Nat} {op : Op} {ρ ρ' : Operand → D} {M : Mem} {nx : D → Mem → Prop} (h : ∀ x ∈ op.operands, ρ' x = ρ x) (hs : sem P K np op ρ M fid nx) : sem P K np op ρ' M fid nx := by
  cases op <;> simp only [Op.operands] at h <;> (try simp only [sem] at hs ⊢)
  case makeMap t r => cases r <;> exact hs
  case build t ps => rw [partsD_congr fun x hx => h x (by simpa using hx)]; exact hs
  case buildSlice t n ps => rw [partsD_congr fun x hx => h x (by simpa using hx)]; exact hs
  case makeFunc fn f c => rw [mapD_congr (ps := f) fun x hx => h x (by simp [hx]), mapD_congr (ps := c) fun x hx => h x (by simp [hx])]; exact hs
  case call c =>
    obtain ⟨callee, args, argTypes⟩ := c
    simp only [Call.operands] at h
    cases callee with
    | builtin b => simp only at hs ⊢; rw [mapD_congr (ps := args) fun x hx => h x (by simp [hx])]; exact hs
    | value f =>
      simp only at hs ⊢
      rw [h f (by simp), mapD_congr (ps := args) fun x hx => h x (by simp [hx])]; exact hs
    | _ => exact hs
  case slice t x lo hi mx =>
    cases mx <;> simp only at hs ⊢
    cases lo <;> cases hi <;> simp_all
  all_goals first
    | exact hs
    | exact hs.elim
    | (simp only [Array.mem_push, Array.mem_append, Array.not_mem_empty, false_or, Array.mem_singleton, List.mem_toArray, List.mem_cons, List.not_mem_nil, or_false, forall_eq_or_imp, forall_eq, List.toArray] at h
       simp_all)

/-- A state from which an operation does what it did. -/
def ovS (dst : Option Tmp) (W : List Nat) (s' t : S) : S := ⟨fun j => if dst = some j then s'.env j else t.env j, ovr W s'.mem t.mem, t.nx⟩

section steps
variable {P : Program} {K : Kt} {n np : Nat} {ops : Array Oper}

structure Rs (P : Program) (K : Kt) (n np : Nat) (ops : Array Oper) (o : Oper) (fid : Nat) (T W : List Nat) (s s' : S) : Prop where
  mem : ∀ id, id ∉ W → s'.mem id = s.mem id
  env : ∀ t, o.dst ≠ some t → s'.env t = s.env t
  nx : s'.nx = s.nx
  again : ∀ t : S, agr (T ++ W) s.mem t.mem → (∀ j, j ∈ o.looksAt ops → t.env j = s.env j) → ∀ Q : S → Prop, Q (ovS o.dst W s' t) → stepOp P K n np ops o fid t Q

theorem opd_congr {s t : S} {o : Oper} (h : ∀ j, j ∈ o.looksAt ops → t.env j = s.env j) : ∀ x ∈ o.op.operands, opd t x = opd s x := by
  intro x hx
  cases x with
  | tmp j => exact h j (List.mem_append_left _ (List.mem_filterMap.2 ⟨.tmp j, by simpa using hx, rfl⟩))
  | const v => cases v <;> rfl
  | func f => rfl
  | global g => rfl

theorem put_ovS {s t : S} {dst : Option Tmp} {d : D} {W : List Nat} {M' : Mem} : ovS dst W (s.put dst d M') t = t.put dst d (ovr W M' t.mem) := by
  unfold ovS S.put
  congr 1
  funext j
  cases dst with
  | none => simp
  | some i =>
    simp only [Option.some.injEq, upd]
    by_cases h : i = j
    · subst h; simp
    · simp [h, Ne.symm h]

theorem step_rs (hD : KDet K) {o : Oper} {fid : Nat} {s : S} {Q : S → Prop} {T W : List Nat} (hf : foot K np o.op (opd s) s.mem fid = some (T, W)) (h : stepOp P K n np ops o fid s Q) :
    ∃ s', Q s' ∧ Rs P K n np ops o fid T W s s' := by
  obtain ⟨hdst, h⟩ := h
  have main : (sem P K np o.op (opd s) s.mem fid fun d M => Q (s.put o.dst d M)) → ∃ s', Q s' ∧ (∀ id, id ∉ W → s'.mem id = s.mem id) ∧ (∀ t, o.dst ≠ some t → s'.env t = s.env t) ∧ s'.nx = s.nx ∧
      ∀ t : S, agr (T ++ W) s.mem t.mem → (∀ j, j ∈ o.looksAt ops → t.env j = s.env j) → ∀ Q : S → Prop, Q (ovS o.dst W s' t) → sem P K np o.op (opd t) t.mem fid fun d M => Q (t.put o.dst d M) := by
    intro h
    obtain ⟨d, M', h1, h2, h3⟩ := sem_loc hD hf h
    refine ⟨_, h1, fun id hid => h2 id hid, fun t ht => ?_, rfl, fun t ht hl Q' hQ => ?_⟩
    · unfold S.put
      cases hd : o.dst with
      | none => rfl
      | some i => exact upd_ne _ _ (fun he => ht (by rw [hd, he]))
    · refine sem_congr (opd_congr hl) (h3 t.mem ht _ ?_)
      rw [put_ovS] at hQ; exact hQ
  have skip : Q (s.put o.dst (.tup []) s.mem) → ∃ s', Q s' ∧ (∀ id, id ∉ W → s'.mem id = s.mem id) ∧ (∀ t, o.dst ≠ some t → s'.env t = s.env t) ∧ s'.nx = s.nx ∧
      ∀ t : S, agr (T ++ W) s.mem t.mem → ∀ Q : S → Prop, Q (ovS o.dst W s' t) → Q (t.put o.dst (.tup []) t.mem) := by
    intro h
    refine ⟨_, h, fun id hid => rfl, fun t ht => ?_, rfl, fun t ht Q' hQ => ?_⟩
    · unfold S.put
      cases hd : o.dst with
      | none => rfl
      | some i => exact upd_ne _ _ (fun he => ht (by rw [hd, he]))
    · rw [put_ovS] at hQ
      have : ovr W s.mem t.mem = t.mem := by
        funext id; simp only [ovr]; split
        · rename_i hi; exact (ht id (List.mem_append_right _ hi)).symm
        · rfl
      rw [this] at hQ; exact hQ
  split at h
  · rename_i hg
    obtain ⟨s', h1, h2, h3, h4, h5⟩ := main h
    exact ⟨s', h1, h2, h3, h4, fun t a b Q' c => ⟨hdst, by rw [hg]; exact h5 t a b Q' c⟩⟩
  · rename_i j want hg
    split at h
    · rename_i t0 ht0
      have hl0 : ∀ t : S, (∀ j, j ∈ o.looksAt ops → t.env j = s.env j) → t.env t0 = s.env t0 := fun t hl => hl t0 (List.mem_append_right _ (by simp [hg, ht0]))
      split at h
      · rename_i b hb
        by_cases hbw : b = want
        · obtain ⟨s', h1, h2, h3, h4, h5⟩ := main (h.1 hbw)
          refine ⟨s', h1, h2, h3, h4, fun t a c Q' d => ⟨hdst, ?_⟩⟩
          rw [hg]; simp only [ht0, hl0 t c, hb]
          exact ⟨fun _ => h5 t a c Q' d, fun hh => by subst hbw; cases b <;> simp at hh⟩
        · have hbn : b = !want := by cases b <;> cases want <;> simp_all
          obtain ⟨s', h1, h2, h3, h4, h5⟩ := skip (h.2 hbn)
          refine ⟨s', h1, h2, h3, h4, fun t a c Q' d => ⟨hdst, ?_⟩⟩
          rw [hg]; simp only [ht0, hl0 t c, hb]
          exact ⟨fun hh => absurd hh hbw, fun _ => h5 t a Q' d⟩
      · rename_i hb
        obtain ⟨s', h1, h2, h3, h4, h5⟩ := skip h
        refine ⟨s', h1, h2, h3, h4, fun t a c Q' d => ⟨hdst, ?_⟩⟩
        rw [hg]; simp only [ht0, hl0 t c, hb]
        exact h5 t a Q' d
      · exact h.elim
    · exact h.elim

def Dj (a b : List Nat) : Prop := ∀ x, x ∈ a → x ∉ b

/-- Two steps that touch nothing in common change places. -/
theorem Rs.swap {x y : Oper} {fx fy : Nat} {Tx Wx Ty Wy : List Nat} {s s1 s2 : S} (hx : Rs P K n np ops x fx Tx Wx s s1) (hy : Rs P K n np ops y fy Ty Wy s1 s2)
    (hap : x.apart ops y = true) (h1 : Dj Wx (Ty ++ Wy)) (h2 : Dj Wy (Tx ++ Wx)) : ∃ t, Rs P K n np ops y fy Ty Wy s t ∧ Rs P K n np ops x fx Tx Wx t s2 := by
  obtain ⟨a1, a2, a3⟩ := Oper.apart_spec hap
  have hag1 : agr (Ty ++ Wy) s1.mem s.mem := fun id hid => (hx.mem id fun h => h1 id h hid).symm
  have hlk : ∀ j, j ∈ y.looksAt ops → s.env j = s1.env j := fun j hj => (hx.env j fun h => a1 j h hj).symm
  refine ⟨ovS y.dst Wy s2 s, ⟨fun id hid => ?_, fun t ht => ?_, rfl, fun t ht hl Q hQ => ?_⟩, ⟨fun id hid => ?_, fun t ht => ?_, ?_, fun t ht hl Q hQ => ?_⟩⟩
  · simp [ovS, ovr, hid]
  · simp [ovS, ht]
  · refine hy.again t (fun id hid => ?_) (fun j hj => ?_) Q ?_
    · rw [ht id hid, hag1 id hid]
    · rw [hl j hj, hlk j hj]
    · have e : ovS y.dst Wy (ovS y.dst Wy s2 s) t = ovS y.dst Wy s2 t := by
        simp only [ovS]
        congr 1
        · funext j; split <;> rfl
        · funext id; simp only [ovr]; split <;> rfl
      rw [e] at hQ; exact hQ
  · simp only [ovS, ovr]
    split
    · rfl
    · rename_i hw; rw [hy.mem id hw, hx.mem id hid]
  · simp only [ovS]
    split
    · rfl
    · rename_i hd; rw [hy.env t hd, hx.env t ht]
  · rw [hy.nx, hx.nx]; rfl
  · refine hx.again t (fun id hid => ?_) (fun j hj => ?_) Q ?_
    · rw [ht id hid]
      simp only [ovS, ovr]
      rw [if_neg fun h => h2 id h hid]
    · rw [hl j hj]
      simp only [ovS]
      rw [if_neg fun h => a3 j h hj]
    · have e : ovS x.dst Wx s2 t = ovS x.dst Wx s1 t := by
        simp only [ovS]
        congr 1
        · funext j
          split
          · rename_i hd
            exact hy.env j fun h => a2 j hd h
          · rfl
        · funext id; simp only [ovr]
          split
          · rename_i hw; exact hy.mem id fun h => h2 id h (List.mem_append_right _ hw)
          · rfl
      rw [e] at hQ; exact hQ

/-- Steps one after another. -/
structure Le3 where
  i : Nat
  T : List Nat
  W : List Nat

def Trace (P : Program) (K : Kt) (n np : Nat) (ops : Array Oper) (base : Nat) : List Le3 → S → S → Prop
  | [], s, s' => s = s'
  | x :: l, s, s' => ∃ o t, ops[x.i]? = some o ∧ Rs P K n np ops o (base + 4 * x.i) x.T x.W s t ∧ Trace P K n np ops base l t s'

/-- Two steps that are free to change places. -/
def Free (ops : Array Oper) (x y : Le3) : Prop := (∀ ox oy, ops[x.i]? = some ox → ops[y.i]? = some oy → ox.apart ops oy = true) ∧ Dj x.W (y.T ++ y.W) ∧ Dj y.W (x.T ++ x.W)

theorem Trace.front {base : Nat} {x : Le3} {l2 : List Le3} : ∀ {l1 : List Le3} {s s' : S}, (∀ z, z ∈ l1 → Free ops z x) → Trace P K n np ops base (l1 ++ x :: l2) s s' → Trace P K n np ops base (x :: (l1 ++ l2)) s s'
  | [], _, _, _, h => h
  | z :: l1, s, s', hf, h => by
    obtain ⟨oz, t, h1, h2, h3⟩ := h
    obtain ⟨ox, u, k1, k2, k3⟩ := Trace.front (fun w hw => hf w (List.mem_cons_of_mem _ hw)) h3
    obtain ⟨f1, f2, f3⟩ := hf z List.mem_cons_self
    obtain ⟨v, r1, r2⟩ := h2.swap k2 (f1 oz ox h1 k1) f2 f3
    exact ⟨ox, v, k1, r1, oz, u, h1, r2, k3⟩

/-- One operation waits for another one. -/
inductive Aft (ops : Array Oper) : Nat → Nat → Prop
  | edge (i : Nat) (o : Oper) (e : Edge) (ho : ops[i]? = some o) (he : e ∈ o.after) (hb : Region.binds .any e = true) : Aft ops i e.on
  | trans (i j k : Nat) (h1 : Aft ops i j) (h2 : Aft ops j k) : Aft ops i k

/-- What is listed has all listed for which it waits. -/
def Closed (ops : Array Oper) (listed : Array Bool) : Prop := ∀ i j, Aft ops i j → listed.getD i false = true → listed.getD j false = true

theorem getD_ft {listed : Array Bool} {i : Nat} (h : listed.getD i true = false) : listed.getD i false = false := by
  rcases Nat.lt_or_ge i listed.size with h' | h'
  · simpa [h'] using h
  · simp [Array.getElem?_eq_none h'] at h

theorem ready_aft {listed : Array Bool} (hc : Closed ops listed) {i j : Nat} (hr : i ∈ Region.ready .any ops listed) (h : Aft ops i j) : listed.getD j false = true := by
  induction h with
  | edge i o e ho he hb =>
    obtain ⟨_, o', ho', hall⟩ := mem_ready.1 hr
    rw [ho] at ho'; cases ho'
    exact hall e he hb
  | trans i j k h1 h2 ih1 ih2 => exact hc j k h2 (ih1 hr)

theorem Rs.self {o : Oper} {fid : Nat} {T W : List Nat} {s t : S} (h : Rs P K n np ops o fid T W s t) : stepOp P K n np ops o fid s (· = t) := by
  refine h.again s (fun _ _ => rfl) (fun _ _ => rfl) _ ?_
  obtain ⟨e, m, x⟩ := t
  obtain ⟨h1, h2, h3, h4⟩ := h
  simp only at h1 h2 h3
  simp only [ovS, S.mk.injEq]
  refine ⟨?_, ?_, h3.symm⟩
  · funext j; split
    · rfl
    · rename_i hd; exact (h2 j hd).symm
  · funext id; simp only [ovr]; split
    · rfl
    · rename_i hd; exact (h1 id hd).symm

theorem trace_any (hK : KOk P K) {F : Fr} {base : Nat} {QQ : Exit → Act → World → Prop} (hacy : ∀ (i : Nat) (o : Oper) (e : Edge), ops[i]? = some o → e ∈ o.after → Region.binds .any e = true → e.on < i) :
    ∀ (fuel : Nat) (listed : Array Bool) (l : List Le3) (s s' : S) (a : Act) (w : World), F.n = n → F.np = np →
      (∀ j, (∃ x, x ∈ l ∧ x.i = j) ↔ (j < ops.size ∧ listed.getD j true = false)) → listed.size = ops.size → l.length ≤ fuel → Closed ops listed →
      l.Pairwise (fun x y => Aft ops y.i x.i ∨ Free ops x y) → l.Pairwise (fun x y => x.i ≠ y.i) → Trace P K n np ops base l s s' → Inv F s a w → (∀ a' w', Inv F s' a' w' → QQ .normal a' w') →
      wpAny P .any ops QQ fuel listed a w := by
  intro fuel
  induction fuel with
  | zero =>
    intro listed l s s' a w hn hnp hl hsz hlen hc hp hnd ht hI hk
    have : l = [] := List.eq_nil_of_length_eq_zero (by omega)
    subst this
    refine ⟨?_, ?_⟩
    · rw [List.eq_nil_iff_forall_not_mem]
      intro i hi
      obtain ⟨h1, o, h2, _⟩ := mem_ready.1 hi
      obtain ⟨x, hx, _⟩ := (hl i).2 ⟨(Array.getElem?_eq_some_iff.1 h2).1, h1⟩
      cases hx
    · have e : s = s' := ht
      subst e; exact hk a w hI
  | succ fuel ih =>
    intro listed l s s' a w hn hnp hl hsz hlen hc hp hnd ht hI hk
    refine ⟨fun hr => ?_, fun i hi => ?_⟩
    · have hnil : l = [] := by
        refine List.eq_nil_iff_forall_not_mem.2 fun x hx => ?_
        have key : ∀ m x, x ∈ l → x.i = m → False := by
          intro m
          induction m using Nat.strongRecOn with
          | _ m ihm =>
            intro x hx hxm
            obtain ⟨h1, h2⟩ := (hl x.i).1 ⟨x, hx, rfl⟩
            obtain ⟨o, ho⟩ : ∃ o, ops[x.i]? = some o := ⟨_, Array.getElem?_eq_getElem h1⟩
            by_cases hall : ∀ e ∈ o.after, Region.binds .any e = true → listed.getD e.on false = true
            · have : x.i ∈ Region.ready .any ops listed := mem_ready.2 ⟨h2, o, ho, hall⟩
              rw [hr] at this; cases this
            · simp only [Classical.not_forall] at hall
              obtain ⟨e, he, hb, hne⟩ := hall
              have hlt := hacy _ o e ho he hb
              have hun : listed.getD e.on true = false := by
                have hi' : e.on < listed.size := by omega
                simp only [Array.getD_eq_getD_getElem?, Array.getElem?_eq_getElem hi', Option.getD_some] at hne ⊢
                simpa using hne
              obtain ⟨y, hy, hyi⟩ := (hl e.on).2 ⟨by omega, hun⟩
              exact ihm e.on (by omega) y hy hyi
        exact key _ x hx rfl
      subst hnil
      have e : s = s' := ht
      subst e; exact hk a w hI
    · obtain ⟨h1, o, h2, hall⟩ := mem_ready.1 hi
      have hlt := (Array.getElem?_eq_some_iff.1 h2).1
      obtain ⟨x, hx, hxi⟩ := (hl i).2 ⟨hlt, h1⟩
      obtain ⟨l1, l2, rfl⟩ := List.append_of_mem hx
      have hfree : ∀ z, z ∈ l1 → Free ops z x := by
        intro z hz
        rcases (List.pairwise_append.1 hp).2.2 z hz x List.mem_cons_self with h | h
        · exfalso
          rw [hxi] at h
          have h3 := ready_aft hc hi h
          obtain ⟨_, h4⟩ := (hl z.i).1 ⟨z, List.mem_append_left _ hz, rfl⟩
          rw [getD_ft h4] at h3; cases h3
        · exact h
      obtain ⟨o', t, k1, k2, k3⟩ := Trace.front hfree ht
      rw [hxi, h2] at k1; cases k1
      have hst := k2.self
      subst hn; subst hnp
      have := step_ok hK hI hst (K' := wpAny P .any ops QQ fuel (listed.setIfInBounds i true)) (QQ := QQ) (fun u a' w' hI' hu => ?_)
      · unfold wpOp
        simp only [h2]
        split
        · rename_i hw; rw [if_pos hw] at this; exact .inl this
        · rename_i hw; rw [if_neg hw] at this; exact this
      · subst hu
        refine ih (listed.setIfInBounds i true) (l1 ++ l2) u s' a' w' rfl rfl (fun j => ?_) (by simpa using hsz) (by simp at hlen ⊢; omega) ?_ ?_ ?_ k3 hI' hk
        · have hne : ∀ z, z ∈ l1 ++ l2 → z.i ≠ i := by
            intro z hz
            rw [List.pairwise_append, List.pairwise_cons] at hnd
            rcases List.mem_append.1 hz with h | h
            · rw [← hxi]; exact hnd.2.2 z h x List.mem_cons_self
            · rw [← hxi]; exact (hnd.2.1.1 z h).symm
          constructor
          · rintro ⟨z, hz, rfl⟩
            obtain ⟨b1, b2⟩ := (hl z.i).1 ⟨z, by simp at hz ⊢; rcases hz with h | h <;> simp [h], rfl⟩
            exact ⟨b1, by rw [getD_set_ne true (fun h => hne z hz h.symm)]; exact b2⟩
          · rintro ⟨b1, b2⟩
            have hji : i ≠ j := by
              rintro rfl
              simp [hsz, hlt] at b2
            rw [getD_set_ne true hji] at b2
            obtain ⟨z, hz, hzj⟩ := (hl j).2 ⟨b1, b2⟩
            refine ⟨z, ?_, hzj⟩
            simp only [List.mem_append, List.mem_cons] at hz ⊢
            rcases hz with h | h | h
            · exact .inl h
            · subst h; exact absurd (hxi.symm.trans hzj) hji
            · exact .inr h
        · intro p q hpq hp'
          refine getD_set_true ?_
          by_cases hpi : i = p
          · subst hpi; exact ready_aft hc hi hpq
          · rw [getD_set_ne false hpi] at hp'
            exact hc p q hpq hp'
        · exact hp.sublist (by simp)
        · exact hnd.sublist (by simp)

/-! ## The check -/
def dj (a b : List Nat) : Bool := a.all fun x => !b.contains x
theorem dj_spec {a b : List Nat} (h : dj a b = true) : Dj a b := by
  intro x hx hb
  simp only [dj, List.all_eq_true] at h
  have := h x hx
  simp [hb] at this

def tbGo : List Oper → List (List Nat) → List (List Nat)
  | [], acc => acc
  | o :: l, acc => tbGo l (acc ++ [((o.after.toList.filter fun e => Region.binds .any e).flatMap fun e => e.on :: acc.getD e.on []).eraseDups])
def tbOf (ops : Array Oper) : List (List Nat) := tbGo ops.toList []
def chkTb (ops : Array Oper) (tb : List (List Nat)) : Bool := (List.range ops.size).all fun i => match ops[i]? with
  | some o => (o.after.all fun e => !Region.binds .any e || decide (e.on < i)) && (tb.getD i []).all fun j => o.after.any fun e => Region.binds .any e && (e.on == j || (tb.getD e.on []).contains j)
  | none => true
def frB (ops : Array Oper) (y x : Le3) : Bool := (match ops[y.i]?, ops[x.i]? with | some oy, some ox => oy.apart ops ox | _, _ => true) && dj y.W (x.T ++ x.W) && dj x.W (y.T ++ y.W)
def chkP (ops : Array Oper) (tb : List (List Nat)) : List Le3 → Bool
  | [] => true
  | x :: r => (r.all fun y => (tb.getD x.i []).contains y.i || frB ops y x) && chkP ops tb r
def chkB (ops : Array Oper) (tb : List (List Nat)) (log : List Le3) : Bool := chkTb ops tb && chkP ops tb log
def chk (ops : Array Oper) (log : List Le3) : Bool := chkB ops (tbOf ops) log

theorem chkTb_acy {tb : List (List Nat)} (h : chkTb ops tb = true) : ∀ (i : Nat) (o : Oper) (e : Edge), ops[i]? = some o → e ∈ o.after → Region.binds .any e = true → e.on < i := by
  intro i o e ho he hb
  simp only [chkTb, List.all_eq_true, List.mem_range] at h
  have := h i (Array.getElem?_eq_some_iff.1 ho).1
  simp only [ho, Bool.and_eq_true] at this
  have := (Array.all_eq_true_iff_forall_mem.1 this.1) e he
  simpa [hb] using this
theorem chkTb_aft {tb : List (List Nat)} (h : chkTb ops tb = true) : ∀ (i : Nat) (j : Nat), i < ops.size → j ∈ tb.getD i [] → Aft ops i j := by
  intro i
  induction i using Nat.strongRecOn with
  | _ i ih =>
    intro j hi hj
    have h0 := h
    simp only [chkTb, List.all_eq_true, List.mem_range] at h
    have := h i hi
    obtain ⟨o, ho⟩ : ∃ o, ops[i]? = some o := ⟨_, Array.getElem?_eq_getElem hi⟩
    simp only [ho, Bool.and_eq_true, List.all_eq_true] at this
    have h2 := this.2 j hj
    obtain ⟨e, he, hb⟩ := Array.any_eq_true'.1 h2
    simp only [Bool.and_eq_true, Bool.or_eq_true, beq_iff_eq, List.contains_iff_mem] at hb
    obtain ⟨hb1, hb2⟩ := hb
    have hlt := chkTb_acy h0 i o e ho he hb1
    rcases hb2 with rfl | hb2
    · exact .edge i o e ho he hb1
    · exact .trans i e.on j (.edge i o e ho he hb1) (ih e.on hlt j (by omega) hb2)

theorem chkP_pw {tb : List (List Nat)} (h : chkTb ops tb = true) : ∀ (l : List Le3), (∀ x, x ∈ l → x.i < ops.size) → chkP ops tb l = true → l.Pairwise (fun y x => Aft ops y.i x.i ∨ Free ops x y)
  | [], _, _ => .nil
  | x :: r, hl, hc => by
    simp only [chkP, Bool.and_eq_true, List.all_eq_true, Bool.or_eq_true, List.contains_iff_mem] at hc
    refine .cons (fun y hy => ?_) (chkP_pw h r (fun z hz => hl z (List.mem_cons_of_mem _ hz)) hc.2)
    rcases hc.1 y hy with hh | hh
    · exact .inl (chkTb_aft h x.i y.i (hl x List.mem_cons_self) hh)
    · right
      simp only [frB, Bool.and_eq_true] at hh
      refine ⟨fun oy ox hoy hox => ?_, dj_spec hh.1.2, dj_spec hh.2⟩
      have := hh.1.1
      simpa only [hoy, hox] using this

/-- A drawn region, in the order of the text, with a check of what may change places. -/
def dRun (P : Program) (K : Kt) (n np : Nat) (ops : Array Oper) : List Oper → Nat → Nat → List Le3 → S → (S → Prop) → Prop
  | [], _, _, log, s, Q => chk ops log = true ∧ Q s
  | o :: l, i, fid, log, s, Q => match foot K np o.op (opd s) s.mem fid with
    | some (T, W) => stepOp P K n np ops o fid s fun s' => dRun P K n np ops l (i + 1) (fid + 4) (⟨i, T, W⟩ :: log) s' Q
    | none => False

theorem dRun_trace (hD : KDet K) {base : Nat} : ∀ (l : List Oper) (i : Nat) (log : List Le3) (s : S) (Q : S → Prop), ops.toList.drop i = l → dRun P K n np ops l i (base + 4 * i) log s Q →
    ∃ tr s', Trace P K n np ops base tr s s' ∧ Q s' ∧ chk ops (tr.reverse ++ log) = true ∧ tr.map (·.i) = List.range' i l.length
  | [], i, log, s, Q, _, h => ⟨[], s, rfl, h.2, h.1, rfl⟩
  | o :: l, i, log, s, Q, hd, h => by
    simp only [dRun] at h
    split at h
    · rename_i T W hf
      obtain ⟨t, h1, h2⟩ := step_rs hD hf h
      have ho : ops[i]? = some o := by
        have := congrArg (·[0]?) hd
        simpa using this
      have hd' : ops.toList.drop (i + 1) = l := by
        rw [← List.drop_drop, hd]; rfl
      have hb : base + 4 * (i + 1) = base + 4 * i + 4 := by omega
      obtain ⟨tr, s', k1, k2, k3, k4⟩ := dRun_trace hD l (i + 1) _ t Q hd' (by rw [hb]; exact h1)
      exact ⟨⟨i, T, W⟩ :: tr, s', ⟨o, t, ho, h2, k1⟩, k2, by simpa using k3, by simp [k4, List.range'_succ]⟩
    · exact h.elim

theorem aw_drawn {Q : Exit → S → Prop} {s : S} (hm : P.follows .mixedOrders = true) (hK : KOk P K) (hD : KDet K) {id : Nat} {l : List Oper}
    (h : dRun P K n np l.toArray l 0 s.nx [] s fun s' => Q .normal { s' with nx := s.nx + 4 * l.length }) : AW P n np (.region id l.toArray true) Q s := by
  intro F a w hn hnp hI
  refine wp_region_any hm ?_
  obtain ⟨tr, s', h1, h2, h3, h4⟩ := dRun_trace (ops := l.toArray) (base := s.nx) hD l 0 [] s _ (by simp) h
  rw [List.append_nil] at h3
  simp only [chk, chkB, Bool.and_eq_true] at h3
  have hmem : ∀ j, (∃ x, x ∈ tr ∧ x.i = j) ↔ j < l.length := by
    intro j
    have : j ∈ tr.map (·.i) ↔ j < l.length := by rw [h4]; simp [List.mem_range']
    rw [← this, List.mem_map]
  have hpw := chkP_pw h3.1 tr.reverse (fun x hx => by simpa using (hmem x.i).1 ⟨x, by simpa using hx, rfl⟩) h3.2
  have hnd : tr.Pairwise (fun x y => x.i ≠ y.i) := by
    rw [← List.pairwise_map (f := Le3.i) (R := (· ≠ ·)), h4]
    exact List.nodup_range'
  refine trace_any hK (chkTb_acy h3.1) _ _ tr s s' a _ hn hnp (fun j => ?_) (by simp) ?_ ?_ ((List.pairwise_reverse.1 hpw)) hnd h1 ?_ ?_
  · rw [hmem]
    simp only [List.size_toArray]
    constructor
    · intro hj; exact ⟨hj, by simp [hj]⟩
    · intro hj; exact hj.1
  · have := congrArg List.length h4
    simpa using Nat.le_of_eq this
  · intro p q _ hp
    exfalso
    by_cases hlt : p < l.length
    · simp [hlt] at hp
    · simp [hlt] at hp
  · obtain ⟨d1, d2, g, hM, henv⟩ := hI
    obtain ⟨k1, k2⟩ := hM.same (w' := { w with drawn := w.drawn + 1 }) rfl rfl rfl rfl
    exact ⟨d1, d2, g, k1, fun t => (henv t).mono k2⟩
  · intro a' w' hI'
    exact ⟨{ s' with nx := s.nx + 4 * l.length }, hI', h2⟩

end steps
end Go.Abs
