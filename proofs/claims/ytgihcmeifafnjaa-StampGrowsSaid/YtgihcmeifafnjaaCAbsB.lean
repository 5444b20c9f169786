/- The abstract machine, second part: how a state of memory goes on. -/
import Derived.Test.YtgihcmeifafnjaaCAbsA
set_option linter.unusedVariables false
set_option linter.unusedSimpArgs false
namespace Go.Abs
open Go

theorem EntsOk.mono {A A' : Nat → Prop} {w w' : World} {kvs : List (D × D)} {es : List MapEntry} (h : EntsOk A w kvs es) (hA : ∀ b, A b → A' b ∧ w'.heap[b]? = w.heap[b]?) : EntsOk A' w' kvs es :=
  ⟨h.1, fun i kv e a b => ⟨(h.2 i kv e a b).1.mono ⟨fun _ _ h => h, hA⟩, (h.2 i kv e a b).2.mono ⟨fun _ _ h => h, hA⟩⟩⟩

theorem EntOk.keep {g A w g' A' w'} {gi : GI} {e : Ent} (h : EntOk g A w gi e) (hL : Le g A w g' A' w') (hb : e.ex = true → gi.live = true → w'.heap[gi.blk]? = w.heap[gi.blk]?) : EntOk g' A' w' gi e := by
  cases e with
  | cells cs =>
    obtain ⟨hl, c, T, h1, h2, h3⟩ := h
    exact ⟨hl, c, T, (hb rfl hl).trans h1, h2, fun i d u a b => (h3 i d u a b).mono hL⟩
  | row sz es ex =>
    obtain ⟨h0, h1, h2, h3, hl, hA⟩ := h
    refine ⟨h0, h1, h2, h3, hl, fun hv => ?_⟩
    obtain ⟨hA, c, T, h4, h5, h6⟩ := hA hv
    have hh : w'.heap[gi.blk]? = w.heap[gi.blk]? := by
      cases ex with
      | true => exact hb rfl hv
      | false => exact (hL.A _ (hA rfl)).2
    exact ⟨fun he => (hL.A _ (hA he)).1, c, T, hh.trans h4, h5, fun i j e d u a b c => (h6 i j e d u a b c).mono hL.A⟩
  | map kvs ex =>
    obtain ⟨hl, hA, es, h1, h2, h3⟩ := h
    have hh : w'.heap[gi.blk]? = w.heap[gi.blk]? := by
      cases ex with
      | true => exact hb rfl hl
      | false => exact (hL.A _ (hA rfl)).2
    exact ⟨hl, fun he => (hL.A _ (hA he)).1, es, hh.trans h1, h2, h3.mono hL.A⟩
  | iter left last =>
    obtain ⟨hl, mb, es, seen, h1, h2, h3, h4, h5, h6⟩ := h
    have hL0 : Le (fun _ => none) A w (fun _ => none) A' w' := ⟨fun _ _ h => h, hL.A⟩
    refine ⟨hl, mb, es, seen, (hL.A _ h1).1, (hL.A _ h1).2.trans h2, h3, (hb rfl hl).trans h4, h5.mono hL.A, fun kv hk => ?_⟩
    obtain ⟨s0, e, k1, k2, k3, k4⟩ := h6 kv hk
    exact ⟨s0, e, k1, k2, k3.mono hL0, k4.mono hL0⟩
  | dead => trivial

theorem MemOk.step {F : Fr} {g M w g' M' w'} (h : MemOk F g M w) (W : Nat → Prop)
    (hg : ∀ id gi, g id = some gi → g' id = some gi) (hdom : ∀ id gi, g' id = some gi → ∃ e, M' id = some e)
    (hW : ∀ b, b < w.heap.size → ¬ W b → w'.heap[b]? = w.heap[b]?) (hWA : ∀ b, Ok F g M w b → ¬ W b)
    (hio : ∀ b, W b → b < F.B → b ∈ F.io)
    (hsz : w.heap.size ≤ w'.heap.size) (hos : w'.os = w.os) (htape : w'.tape = w.tape) (hout : w'.output = w.output)
    (hent : Le g (Ok F g M w) w g' (Ok F g' M' w') w' → ∀ id e, M' id = some e →
      (M id = some e ∧ ∀ gi, g id = some gi → e.ex = true → gi.live = true → ¬ W gi.blk) ∨
      ∃ gi, g' id = some gi ∧ EntOk g' (Ok F g' M' w') w' gi e)
    (hnew : ∀ id e gi, M' id = some e → e.ex = true → g' id = some gi → gi.live = true → (M id = some e ∧ g id = some gi) ∨
      (gi.blk < w'.heap.size ∧ (gi.blk < F.B → gi.blk ∈ F.io) ∧ (F.np ≤ id → F.B ≤ gi.blk) ∧ ¬ Ok F g M w gi.blk))
    (hinj : ∀ i j ei ej gi gj, i ≠ j → M' i = some ei → M' j = some ej → ei.ex = true → ej.ex = true → g' i = some gi → g' j = some gj → gi.live = true → gj.live = true → gi.blk ≠ gj.blk)
    (hdr : w.drawn ≤ w'.drawn := by first | assumption | exact Nat.le_refl _ | exact Nat.le_succ _) :
    MemOk F g' M' w' ∧ Le g (Ok F g M w) w g' (Ok F g' M' w') w' := by
  have hL : Le g (Ok F g M w) w g' (Ok F g' M' w') w' := by
    refine ⟨hg, fun b hb => ⟨⟨Nat.lt_of_lt_of_le hb.1 hsz, hb.2.1, fun id e gi hm he hgi hlv hbe => ?_⟩, hW b hb.1 (hWA b hb)⟩⟩
    rcases hnew id e gi hm he hgi hlv with ⟨h1, h2⟩ | ⟨_, _, _, h4⟩
    · exact hb.2.2 id e gi h1 he h2 hlv hbe
    · exact h4 (hbe ▸ hb)
  refine ⟨⟨fun id e hm => ?_, hdom, hinj, fun i e gi hm he hgi hlv => ?_, fun i e gi hn hm he hgi hlv => ?_, Nat.le_trans h.size hsz, fun b hb hn => ?_, hos.trans h.os, htape.trans h.tape, hout.trans h.output, Nat.le_trans h.dr hdr, h.ioA, fun j b hb => let ⟨h0, gi, h1, h2⟩ := h.par j b hb; ⟨h0, gi, hg _ _ h1, h2⟩⟩, hL⟩
  · rcases hent hL id e hm with ⟨h1, h2⟩ | h1
    · obtain ⟨gi, hgi, hE⟩ := h.ent id e h1
      refine ⟨gi, hg _ _ hgi, hE.keep hL fun he hlv => ?_⟩
      exact hW _ (h.lo id e gi h1 he hgi hlv).1 (h2 gi hgi he hlv)
    · exact h1
  · rcases hnew i e gi hm he hgi hlv with ⟨h1, h2⟩ | ⟨h1, h2, _, _⟩
    · exact ⟨Nat.lt_of_lt_of_le (h.lo i e gi h1 he h2 hlv).1 hsz, (h.lo i e gi h1 he h2 hlv).2⟩
    · exact ⟨h1, h2⟩
  · rcases hnew i e gi hm he hgi hlv with ⟨h1, h2⟩ | ⟨_, _, h3, _⟩
    · exact h.hi i e gi hn h1 he h2 hlv
    · exact h3 hn
  · rw [hW b (Nat.lt_of_lt_of_le hb h.size) (fun hw => hn (hio b hw hb))]
    exact h.old b hb hn

theorem MemOk.gnone {F : Fr} {g M w} (h : MemOk F g M w) {f : Nat} (hf : M f = none) : g f = none := by
  cases hg : g f with
  | none => rfl
  | some gi => obtain ⟨e, he⟩ := h.dom f gi hg; simp [hf] at he

/-- Only draws: nothing of memory. -/
theorem MemOk.same {F : Fr} {g M w w'} (h : MemOk F g M w) (hh : w'.heap = w.heap) (hos : w'.os = w.os) (htape : w'.tape = w.tape) (hout : w'.output = w.output) (hdr : w.drawn ≤ w'.drawn := by first | assumption | exact Nat.le_refl _ | exact Nat.le_succ _) :
    MemOk F g M w' ∧ Le g (Ok F g M w) w g (Ok F g M w') w' :=
  h.step (fun _ => False) (fun _ _ h => h) h.dom (fun b _ _ => by rw [hh]) (fun _ _ h => h) (fun _ h => h.elim) (by rw [hh]; exact Nat.le_refl _) hos htape hout
    (fun _ id e he => .inl ⟨he, fun _ _ _ _ h => h⟩) (fun id e gi h1 _ h3 _ => .inl ⟨h1, h3⟩) h.inj hdr

/-- A new block. -/
theorem MemOk.alloc {F : Fr} {g M w} (h : MemOk F g M w) {f : Nat} (hf : M f = none) (o : Obj) (e : Ent) (gi : GI) (hb : gi.blk = w.heap.size)
    (he : Le g (Ok F g M w) w (upd g f (some gi)) (Ok F (upd g f (some gi)) (upd M f (some e)) { w with heap := w.heap.push o }) { w with heap := w.heap.push o } →
      EntOk (upd g f (some gi)) (Ok F (upd g f (some gi)) (upd M f (some e)) { w with heap := w.heap.push o }) { w with heap := w.heap.push o } gi e) :
    MemOk F (upd g f (some gi)) (upd M f (some e)) { w with heap := w.heap.push o } ∧
      Le g (Ok F g M w) w (upd g f (some gi)) (Ok F (upd g f (some gi)) (upd M f (some e)) { w with heap := w.heap.push o }) { w with heap := w.heap.push o } := by
  have hgf := h.gnone hf
  refine h.step (fun b => b = w.heap.size) (fun id gi' hg => ?_) (fun id gi' hg => ?_) (fun b hb' hn => ?_) (fun b hb' => ?_) (fun b hb' hlt => ?_) (by simp) rfl rfl rfl (fun hL id e' hm => ?_) (fun id e' gi' hm hx hg hlv => ?_) (fun i j ei ej gi' gj hij hi hj hxi hxj hgi hgj hlvi hlvj => ?_)
  · by_cases hid : id = f
    · subst hid; simp [hgf] at hg
    · simpa [upd, hid] using hg
  · by_cases hid : id = f
    · subst hid; exact ⟨e, by simp⟩
    · simp only [upd, hid, if_false] at hg ⊢; exact h.dom id gi' hg
  · simp [Array.getElem?_push, hn]
  · have := hb'.1; omega
  · have := h.size; unfold Fr.B at hlt; unfold Fr.B at this; omega
  · by_cases hid : id = f
    · subst hid
      simp only [upd_same, Option.some.injEq] at hm; subst hm
      exact .inr ⟨gi, by simp, he hL⟩
    · simp only [upd, hid, if_false] at hm
      exact .inl ⟨hm, fun gi' hg' hx hlv => by have := (h.lo id e' gi' hm hx hg' hlv).1; omega⟩
  · by_cases hid : id = f
    · subst hid
      simp only [upd_same, Option.some.injEq] at hm hg; subst hm; subst hg
      refine .inr ⟨by simp [hb], fun hlt => ?_, fun _ => by rw [hb]; exact h.size, fun hok => by have := hok.1; omega⟩
      have := h.size; unfold Fr.B at hlt this; omega
    · simp only [upd, hid, if_false] at hm hg
      exact .inl ⟨hm, hg⟩
  · by_cases hif : i = f
    · have hjf : j ≠ f := fun hjf => hij (hif.trans hjf.symm)
      subst hif
      simp only [upd_same, Option.some.injEq] at hgi; subst hgi
      simp only [upd, hjf, if_false] at hj hgj
      have := (h.lo j ej gj hj hxj hgj hlvj).1; omega
    · by_cases hjf : j = f
      · subst hjf
        simp only [upd_same, Option.some.injEq] at hgj; subst hgj
        simp only [upd, hif, if_false] at hi hgi
        have := (h.lo i ei gi' hi hxi hgi hlvi).1; omega
      · simp only [upd, hif, hjf, if_false] at hi hj hgi hgj
        exact h.inj i j ei ej gi' gj hij hi hj hxi hxj hgi hgj hlvi hlvj

/-- What an exclusive identity holds turns. -/
theorem MemOk.modify {F : Fr} {g M w w'} (h : MemOk F g M w) {i : Nat} {e e' : Ent} {gi : GI} (hi : M i = some e) (hx : e.ex = true) (hgi : g i = some gi) (hlv : gi.live = true)
    (hw : ∀ b, b ≠ gi.blk → w'.heap[b]? = w.heap[b]?) (hs : w'.heap.size = w.heap.size) (hos : w'.os = w.os) (htape : w'.tape = w.tape) (hout : w'.output = w.output)
    (hx' : e'.ex = true)
    (he : Le g (Ok F g M w) w g (Ok F g (upd M i (some e')) w') w' → EntOk g (Ok F g (upd M i (some e')) w') w' gi e')
    (hdr : w.drawn ≤ w'.drawn := by first | assumption | exact Nat.le_refl _ | exact Nat.le_succ _) :
    MemOk F g (upd M i (some e')) w' ∧ Le g (Ok F g M w) w g (Ok F g (upd M i (some e')) w') w' := by
  refine h.step (fun b => b = gi.blk) (fun _ _ h => h) (fun id gi' hg => ?_) (fun b _ hn => hw b hn) (fun b hb hbe => ?_) (fun b hb hlt => ?_) (by omega) hos htape hout (fun hL id e1 hm => ?_) (fun id e1 gi1 hm hx1 hg1 hl1 => ?_) (fun i1 j ei ej gi' gj hij h1 h2 hx1 hx2 hg1 hg2 hl1 hl2 => ?_)
  · by_cases hid : id = i
    · subst hid; exact ⟨e', by simp⟩
    · simp only [upd, hid, if_false]; exact h.dom id gi' hg
  · exact hb.2.2 i e gi hi hx hgi hlv hbe.symm
  · subst hb; exact (h.lo i e gi hi hx hgi hlv).2 hlt
  · by_cases hid : id = i
    · subst hid
      simp only [upd_same, Option.some.injEq] at hm; subst hm
      exact .inr ⟨gi, hgi, he hL⟩
    · simp only [upd, hid, if_false] at hm
      exact .inl ⟨hm, fun gi' hg' hx1 hl1 => h.inj id i e1 e gi' gi hid hm hi hx1 hx hg' hgi hl1 hlv⟩
  · by_cases hid : id = i
    · subst hid
      rw [hgi] at hg1; cases hg1
      refine .inr ⟨by rw [hs]; exact (h.lo id e gi hi hx hgi hlv).1, (h.lo id e gi hi hx hgi hlv).2, fun hn => h.hi id e gi hn hi hx hgi hlv, fun hok => hok.2.2 id e gi hi hx hgi hlv rfl⟩
    · simp only [upd, hid, if_false] at hm
      exact .inl ⟨hm, hg1⟩
  · have key : ∀ k ek, upd M i (some e') k = some ek → ek.ex = true → ∃ e0, M k = some e0 ∧ e0.ex = true := by
      intro k ek hk hxk
      by_cases hki : k = i
      · subst hki; exact ⟨e, hi, hx⟩
      · simp only [upd, hki, if_false] at hk; exact ⟨ek, hk, hxk⟩
    obtain ⟨e1, a1, b1⟩ := key i1 ei h1 hx1
    obtain ⟨e2, a2, b2⟩ := key j ej h2 hx2
    exact h.inj i1 j e1 e2 gi' gj hij a1 a2 b1 b2 hg1 hg2 hl1 hl2

/-- An identity is given up, or a row of the call's own is frozen. -/
theorem MemOk.calm {F : Fr} {g M w} (h : MemOk F g M w) {i : Nat} {e e' : Ent} (hi : M i = some e) (hx' : e'.ex = false)
    (he : ∀ gi, g i = some gi → Le g (Ok F g M w) w g (Ok F g (upd M i (some e')) w) w → EntOk g (Ok F g (upd M i (some e')) w) w gi e') :
    MemOk F g (upd M i (some e')) w ∧ Le g (Ok F g M w) w g (Ok F g (upd M i (some e')) w) w := by
  refine h.step (fun _ => False) (fun _ _ h => h) (fun id gi' hg => ?_) (fun b _ hn => rfl) (fun b hb hbe => hbe) (fun b hb hlt => hb.elim) (by omega) rfl rfl rfl (fun hL id e1 hm => ?_) (fun id e1 gi1 hm hx1 hg1 hl1 => ?_) (fun i1 j ei ej gi' gj hij h1 h2 hx1 hx2 hg1 hg2 hl1 hl2 => ?_)
  · by_cases hid : id = i
    · subst hid; exact ⟨e', by simp⟩
    · simp only [upd, hid, if_false]; exact h.dom id gi' hg
  · by_cases hid : id = i
    · subst hid
      simp only [upd_same, Option.some.injEq] at hm; subst hm
      obtain ⟨gi, hgi, _⟩ := h.ent id e hi
      exact .inr ⟨gi, hgi, he gi hgi hL⟩
    · simp only [upd, hid, if_false] at hm
      exact .inl ⟨hm, fun gi' hg' hx1 hl1 h => h⟩
  · by_cases hid : id = i
    · subst hid
      simp only [upd_same, Option.some.injEq] at hm; subst hm
      simp [hx'] at hx1
    · simp only [upd, hid, if_false] at hm
      exact .inl ⟨hm, hg1⟩
  · have key : ∀ k ek, upd M i (some e') k = some ek → ek.ex = true → M k = some ek := by
      intro k ek hk hxk
      by_cases hki : k = i
      · subst hki; simp only [upd_same, Option.some.injEq] at hk; subst hk; simp [hx'] at hxk
      · simpa only [upd, hki, if_false] using hk
    exact h.inj i1 j ei ej gi' gj hij (key i1 ei h1 hx1) (key j ej h2 hx2) hx1 hx2 hg1 hg2 hl1 hl2

theorem MemOk.kill {F : Fr} {g M w} (h : MemOk F g M w) {i : Nat} {e : Ent} (hi : M i = some e) :
    MemOk F g (upd M i (some .dead)) w ∧ Le g (Ok F g M w) w g (Ok F g (upd M i (some .dead)) w) w :=
  h.calm hi rfl fun _ _ _ => trivial

theorem MemOk.freeze {F : Fr} {g M w} (h : MemOk F g M w) {i sz : Nat} {es : List (List D)} (hi : M i = some (.row sz es true)) (hn : F.np ≤ i) :
    MemOk F g (upd M i (some (.row sz es false))) w ∧ Le g (Ok F g M w) w g (Ok F g (upd M i (some (.row sz es false))) w) w := by
  refine h.calm hi rfl fun gi hgi hL => ?_
  obtain ⟨gi', hgi', hE⟩ := h.ent i _ hi
  rw [hgi] at hgi'; cases hgi'
  obtain ⟨h0, h1, h2, h3, hz, hA⟩ := hE
  refine ⟨h0, h1, h2, h3, hz, fun hlv => ?_⟩
  obtain ⟨hA, c, T, h4, h5, h6⟩ := hA hlv
  refine ⟨fun _ => ?_, c, T, h4, h5, fun i j e d u a b c => (h6 i j e d u a b c).mono hL.A⟩
  have hlo := h.lo i _ gi hi rfl hgi hlv
  refine ⟨hlo.1, fun hlt => ?_, fun id e gi2 hm hx hg2 hl2 hbe => ?_⟩
  · have := h.hi i _ gi hn hi rfl hgi hlv; unfold Fr.B at hlt this; omega
  · by_cases hid : id = i
    · subst hid; simp only [upd_same, Option.some.injEq] at hm; subst hm; simp [Ent.ex] at hx
    · simp only [upd, hid, if_false] at hm
      exact h.inj id i e _ gi2 gi hid hm hi hx rfl hg2 hgi hl2 hlv hbe

/-- What an exclusive identity held goes over to a new identity, in the same block. -/
theorem MemOk.move {F : Fr} {g M w w'} (h : MemOk F g M w) {i f : Nat} {e e' : Ent} {gi gi' : GI} (hi : M i = some e) (hx : e.ex = true) (hgi : g i = some gi) (hlv : gi.live = true) (hn : F.np ≤ i)
    (hf : M f = none) (hb : gi'.blk = gi.blk)
    (hw : ∀ b, b ≠ gi.blk → w'.heap[b]? = w.heap[b]?) (hs : w'.heap.size = w.heap.size) (hos : w'.os = w.os) (htape : w'.tape = w.tape) (hout : w'.output = w.output)
    (he : Le g (Ok F g M w) w (upd g f (some gi')) (Ok F (upd g f (some gi')) (upd (upd M i (some .dead)) f (some e')) w') w' →
      EntOk (upd g f (some gi')) (Ok F (upd g f (some gi')) (upd (upd M i (some .dead)) f (some e')) w') w' gi' e')
    (hdr : w.drawn ≤ w'.drawn := by first | assumption | exact Nat.le_refl _ | exact Nat.le_succ _) :
    MemOk F (upd g f (some gi')) (upd (upd M i (some .dead)) f (some e')) w' ∧
      Le g (Ok F g M w) w (upd g f (some gi')) (Ok F (upd g f (some gi')) (upd (upd M i (some .dead)) f (some e')) w') w' := by
  have hgf := h.gnone hf
  have hfi : f ≠ i := fun hh => by subst hh; simp [hf] at hi
  have hlo := h.lo i e gi hi hx hgi hlv
  refine h.step (fun b => b = gi.blk) (fun id gi1 hg => ?_) (fun id gi1 hg => ?_) (fun b _ hn => hw b hn) (fun b hb' hbe => ?_) (fun b hb' hlt => ?_) (by omega) hos htape hout (fun hL id e1 hm => ?_) (fun id e1 gi1 hm hx1 hg1 hl1 => ?_) (fun i1 j ei ej gi1 gj hij h1 h2 hx1 hx2 hg1 hg2 hl1 hl2 => ?_)
  · by_cases hid : id = f
    · subst hid; simp [hgf] at hg
    · simpa [upd, hid] using hg
  · by_cases hid : id = f
    · subst hid; exact ⟨e', by simp⟩
    · by_cases hid2 : id = i
      · subst hid2; exact ⟨.dead, by simp [upd, hid]⟩
      · simp only [upd, hid, hid2, if_false] at hg ⊢; exact h.dom id gi1 hg
  · exact hb'.2.2 i e gi hi hx hgi hlv hbe.symm
  · subst hb'; exact hlo.2 hlt
  · by_cases hid : id = f
    · subst hid
      simp only [upd_same, Option.some.injEq] at hm; subst hm
      exact .inr ⟨gi', by simp, he hL⟩
    · by_cases hid2 : id = i
      · subst hid2
        simp only [upd, hid, if_false, if_true, Option.some.injEq] at hm; subst hm
        exact .inr ⟨gi, by simpa [upd, hid] using hgi, trivial⟩
      · simp only [upd, hid, hid2, if_false] at hm
        exact .inl ⟨hm, fun gi1 hg1 hx1 hl1 => h.inj id i e1 e gi1 gi hid2 hm hi hx1 hx hg1 hgi hl1 hlv⟩
  · by_cases hid : id = f
    · subst hid
      simp only [upd_same, Option.some.injEq] at hm hg1; subst hm; subst hg1
      refine .inr ⟨by rw [hb, hs]; exact hlo.1, by rw [hb]; exact hlo.2, fun _ => by rw [hb]; exact h.hi i e gi hn hi hx hgi hlv, fun hok => hok.2.2 i e gi hi hx hgi hlv hb.symm⟩
    · by_cases hid2 : id = i
      · subst hid2
        simp only [upd, hid, if_false, if_true, Option.some.injEq] at hm; subst hm; simp [Ent.ex] at hx1
      · simp only [upd, hid, hid2, if_false] at hm hg1
        exact .inl ⟨hm, hg1⟩
  · have key : ∀ k ek gk, upd (upd M i (some .dead)) f (some e') k = some ek → ek.ex = true → upd g f (some gi') k = some gk →
        (k = f ∧ gk.blk = gi.blk) ∨ (k ≠ f ∧ k ≠ i ∧ M k = some ek ∧ g k = some gk) := by
      intro k ek gk hk hxk hgk
      by_cases hkf : k = f
      · subst hkf; simp only [upd_same, Option.some.injEq] at hgk; subst hgk; exact .inl ⟨rfl, hb⟩
      · by_cases hki : k = i
        · subst hki; simp only [upd, hkf, if_false, if_true, Option.some.injEq] at hk; subst hk; simp [Ent.ex] at hxk
        · simp only [upd, hkf, hki, if_false] at hk hgk; exact .inr ⟨hkf, hki, hk, hgk⟩
    rcases key i1 ei gi1 h1 hx1 hg1 with ⟨a, a2⟩ | ⟨a, a2, a3, a4⟩ <;> rcases key j ej gj h2 hx2 hg2 with ⟨b, b2⟩ | ⟨b, b2, b3, b4⟩
    · exact absurd (a.trans b.symm) hij
    · rw [a2]; exact h.inj i j e ej gi gj (fun hh => b2 hh.symm) hi b3 hx hx2 hgi b4 hlv hl2
    · rw [b2]; exact h.inj i1 i ei e gi1 gi a2 a3 hi hx1 hx a4 hgi hl1 hlv
    · exact h.inj i1 j ei ej gi1 gj hij a3 b3 hx1 hx2 a4 b4 hl1 hl2

end Go.Abs
