/- The abstract machine: a law's row. -/
import Derived.Test.YtgihcmeifafnjaaCAbsW
import Derived.WalkKit
import Derived.ProofKit
import Derived.OpenShut
import Derived.ShutString
import Derived.ChangeOld
import Derived.Below
import Derived.SizedLaws
set_option linter.unusedVariables false
set_option linter.unusedSimpArgs false
namespace Go.Abs
open Go Go.ChangeShapes Go.WideShapes Go.ChangeAt Go.RowKit

def IsRow (k : IntKind) (w : World) (a : Option Addr) (len cap : Nat) (zs : List Int) : Prop :=
  (a = none ∧ len = 0 ∧ cap = 0 ∧ zs = []) ∨
  ∃ x, a = some x ∧ len ≤ cap ∧ cap ≤ maxLen ∧ zs.length = cap ∧ (∀ i, i < zs.length → w.cell? (x.add i) = some (.int k (zs.getD i 0))) ∧ ∀ n ∈ zs, (Lit.int k n).wf = true

abbrev oldB (W : World) (b : Nat) : Prop := b < W.heap.size

theorem rv_int {A : Nat → Prop} {W : World} (k : IntKind) (n : Int) : Rv A W (.v (.int k n)) (.int k n) := .c _ _ (.c _ _ (.v _ rfl))
theorem rv_bool {A : Nat → Prop} {W : World} (b : Bool) : Rv A W (.v (.bool b)) (.bool b) := .c _ _ (.c _ _ (.v _ rfl))

theorem rv_ints {k : IntKind} {W : World} {a : Option Addr} {len cap : Nat} {zs : List Int} (h : IsRow k W a len cap zs) :
    Rv (oldB W) W (.sl 1 ((zs.take len).map fun x => [.v (.int k x)])) (.slice a len cap) ∧ (zs.take len).length ≤ 9223372036854775807 := by
  rcases h with ⟨rfl, rfl, rfl, rfl⟩ | ⟨x, rfl, h1, h2, h3, h4, h5⟩
  · exact ⟨.c _ _ (.c _ _ (.sl 1 [] none 0 (fun _ _ => .nilFunc) (by simp) (by simp) (by simp) (by simp))), by simp⟩
  · have hl : (zs.take len).length = len := by simp; omega
    refine ⟨?_, by rw [hl]; exact Nat.le_trans (Nat.le_trans h1 h2) (by decide)⟩
    have hc : ∀ i, i < len → x.spot = none ∧ W.cell? ⟨x.block, x.off + i, none⟩ = some (.int k (zs.getD i 0)) := by
      intro i hi
      have h0 := h4 0 (by omega)
      have hs : x.spot = none := by
        simp only [Addr.add, if_true] at h0
        unfold World.cell? at h0
        split at h0
        · cases hsp : x.spot with
          | none => rfl
          | some s => rw [hsp] at h0; simp at h0
        · cases h0
      refine ⟨hs, ?_⟩
      have := h4 i (by omega)
      unfold Addr.add at this
      split at this
      · rename_i hz; subst hz
        rw [← this]
        congr 1
        cases x; simp_all
      · exact this
    have e : ((zs.take len).map fun x => [D.v (.int k x)]).length = len := by rw [List.length_map, hl]
    have := Rc.sl (A := oldB W) (w := W) 1 ((zs.take len).map fun x => [D.v (.int k x)]) (some x) cap (fun i _ => .int k (zs.getD i 0)) (by rw [e]; exact h1) (by intro e' he'; obtain ⟨x, _, rfl⟩ := List.mem_map.1 he'; rfl) (fun hne => ?_) (fun i j e' d hi hj => ?_)
    · rw [e] at this
      exact .c _ _ (.c _ _ this)
    · rw [e]
      have hpos : 0 < len := by
        rcases Nat.eq_zero_or_pos len with h | h
        · subst h; simp at hne
        · exact h
      refine ⟨x.block, x.off, ?_, ?_, fun i j hi hj => ?_⟩
      · have := (hc 0 hpos).1
        cases x; simp_all
      · have := (hc 0 hpos).2
        unfold World.cell? at this
        simp only at this
        show x.block < W.heap.size
        rcases Nat.lt_or_ge x.block W.heap.size with h | h
        · exact h
        · rw [Array.getElem?_eq_none h] at this; cases this
      · have hj0 : j = 0 := by omega
        subst hj0
        simpa using (hc i hi).2
    · simp only [List.getElem?_map, List.getElem?_take] at hi
      split at hi
      · rename_i hlt
        have hz : i < zs.length := by omega
        rw [List.getElem?_eq_getElem hz] at hi
        simp only [Option.map_some, Option.some.injEq] at hi
        subst hi
        cases j with
        | zero =>
          simp at hj; subst hj
          have : zs.getD i 0 = zs[i] := by simp [List.getD, List.getElem?_eq_getElem hz]
          rw [this]; exact .v _ rfl
        | succ j => simp at hj
      · cases hi

theorem law_calls {P : Program} {f : FuncId} {c : Con} (h : CallOk P f c) (a : c.α) (hp : c.pre a) (hpost : ∀ r, c.post a r → r = ⟨[.d (.v (.bool true))], []⟩) {W : World} {vs : List Value} (hA : ArgsOk (oldB W) W (c.args a) vs []) :
    Calls P f vs.toArray W fun e W' => e = .returned (.bool true) ∧ Below W.heap.size W W' := by
  refine (h.calls a hp W (oldB W) [] vs hA .nil (fun b hb => by cases hb) (fun b hb => hb)).mono ?_
  rintro e W' ⟨v, r, rfl, hr, hR⟩
  obtain rfl := hpost r hr
  obtain ⟨h1, h2, h3, h4, h5, h6, gis, us, k1, k2, k3, k4, _⟩ := hR
  have hv : v = .bool true := by
    have hu : us.length = 1 := by simpa using k2
    have hg : gis.length = 1 := by simpa using k3
    rw [k1, if_pos hu]
    match us, gis, hu, hg with
    | [u], [gi], _, _ =>
      have := k4 0 _ gi u rfl rfl rfl
      cases gi with
      | some gi => exact this.elim
      | none =>
        cases Tv.cell this rfl with
        | c _ _ hr => cases hr; rfl
  subst hv
  exact ⟨rfl, h3, h4, h5, h1, fun k hk => h2 k hk (by simp)⟩

end Go.Abs
