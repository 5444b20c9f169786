/- The abstract machine, seventeenth part: every operation depends on what it touches alone. -/
import Derived.Test.YtjhhmkkndgocfaaCAbsSo
import Derived.Attr
import Derived.WalkKit
import Derived.ProofKit
import Derived.OpenShut
import Derived.ShutString
import Derived.ChangeOld
import Derived.Below
import Derived.SizedLaws
import Derived.Test.YtjhhmkkndgocfaaProg
import Derived.Laws.BitsLemmas
set_option linter.unusedVariables false
set_option linter.unusedSimpArgs false
namespace Go.Abs
open Go

theorem mem_ids0 {d : D} : ∀ {id : Nat}, (d = .row id ∨ (∃ o n, d = .vw id o n) ∨ (∃ i o, d = .elt id i o) ∨ (∃ o, d = .box id o)) → id ∈ ids0 d := by
  rintro id (rfl | ⟨_, _, rfl⟩ | ⟨_, _, rfl⟩ | ⟨_, rfl⟩) <;> simp [ids0]

section pure
variable {P : Program} {M : Mem} {nx : D → Mem → Prop}

/-- An operation that does not look at memory. -/
def PureAt (f : Mem → (D → Mem → Prop) → Prop) (M : Mem) (nx : D → Mem → Prop) : Prop := ∃ d, nx d M ∧ ∀ N (nx' : D → Mem → Prop), nx' d N → f N nx'
theorem PureAt.loc {f : Mem → (D → Mem → Prop) → Prop} (h : PureAt f M nx) : LocAt [] [] f M nx := by
  obtain ⟨d, h1, h2⟩ := h
  exact .read d h1 fun N _ nx' hn => h2 N nx' hn

theorem pure_pick {c a b : D} (h : semPick c a b M nx) : PureAt (semPick c a b) M nx := by
  unfold semPick at *
  split at h
  · rename_i t
    cases t
    · exact ⟨b, h.2 rfl, fun N nx' hn => ⟨by simp, fun _ => hn⟩⟩
    · exact ⟨a, h.1 rfl, fun N nx' hn => ⟨fun _ => hn, by simp⟩⟩
  · exact h.elim
theorem pure_cell {cs : List D} {off : Nat} (h : getCell cs off M nx) : PureAt (getCell cs off) M nx := by
  unfold getCell at *
  split at h
  · rename_i x hx; exact ⟨x, h, fun N nx' hn => by simp only [hx]; exact hn⟩
  · exact h.elim
theorem pure_cells {ag : Bool} {n : Nat} {cs : List D} {off : Nat} (h : getCells ag n cs off M nx) : PureAt (getCells ag n cs off) M nx := by
  unfold getCells at *
  split at h
  · rename_i hc; exact ⟨_, h.2, fun N nx' hn => by simp only [hc, if_true]; exact ⟨h.1, hn⟩⟩
  · rename_i hc
    obtain ⟨d, h1, h2⟩ := pure_cell h
    exact ⟨d, h1, fun N nx' hn => by simp only [hc]; exact h2 N nx' hn⟩
theorem pure_build {t : TypeId} {parts : List (Nat × D)} (h : semBuildT P t parts M nx) : PureAt (semBuildT P t parts) M nx := by
  unfold semBuildT at *
  obtain ⟨h0, h⟩ := h
  split at h
  · rename_i zs pl hz hp
    obtain ⟨h1, h⟩ := h
    split at h
    · rename_i cs hcs; exact ⟨_, h, fun N nx' hn => by simp only [hcs]; exact ⟨h0, h1, hn⟩⟩
    · exact h.elim
  · exact h.elim
theorem pure_nil {x : D} (h : semNil x M nx) : PureAt (semNil x) M nx := by
  unfold semNil at *
  cases x <;> first | exact h.elim | exact ⟨_, h, fun N nx' hn => hn⟩
theorem pure_binV {op : BinOp} {t : TypeId} {x y : Value} (h : semBinV P op t x y M nx) : PureAt (semBinV P op t x y) M nx := by
  unfold semBinV at h
  split at h
  · exact ⟨_, h.2.2, fun N nx' hn => by simp only [semBinV]; exact ⟨h.1, h.2.1, hn⟩⟩
  · exact ⟨_, h.2.2, fun N nx' hn => by simp only [semBinV]; exact ⟨h.1, h.2.1, hn⟩⟩
  · exact ⟨_, h.2, fun N nx' hn => by simp only [semBinV]; exact ⟨h.1, hn⟩⟩
  · exact ⟨_, h.2, fun N nx' hn => by simp only [semBinV]; exact ⟨h.1, hn⟩⟩
  · obtain ⟨hk, h⟩ := h
    split at h
    · rename_i n1 n2 n3 n4 v hv
      refine ⟨_, h, fun N nx' hn => ?_⟩
      unfold semBinV
      split <;> first | (simp_all; done) | (simp_all; rename_i hx; exact hx _ _ _ _ rfl rfl rfl rfl)
    · exact h.elim
  · exact ⟨_, h.2, fun N nx' hn => by simp only [semBinV]; exact ⟨h.1, hn⟩⟩
  · exact ⟨_, h.2, fun N nx' hn => by simp only [semBinV]; exact ⟨h.1, hn⟩⟩
  · exact ⟨_, h, fun N nx' hn => hn⟩
  · exact ⟨_, h, fun N nx' hn => hn⟩
  · exact ⟨_, h.2, fun N nx' hn => ⟨h.1, hn⟩⟩
  · exact h.elim
theorem pure_bin {op : BinOp} {t : TypeId} {x y : D} (hx : slD x = false) (h : semBin P op t x y M nx) : PureAt (semBin P op t x y) M nx := by
  unfold semBin at h
  split at h
  · exact pure_binV h
  · rename_i ds es
    obtain ⟨hE, h⟩ := h
    split at h
    · rename_i b hb; exact ⟨_, h, fun N nx' hn => by simp only [semBin, hb]; exact ⟨hE, hn⟩⟩
    · rename_i b hb; exact ⟨_, h, fun N nx' hn => by simp only [semBin, hb]; exact ⟨hE, hn⟩⟩
    · exact h.elim
  · obtain ⟨hE, h⟩ := h
    split at h
    · exact ⟨_, h, fun N nx' hn => ⟨hE, hn⟩⟩
    · exact ⟨_, h, fun N nx' hn => ⟨hE, hn⟩⟩
    · exact h.elim
  · cases hx
  · exact h.elim
theorem pure_un {op : UnOp} {x : D} (h : semUn op x M nx) : PureAt (semUn op x) M nx := by
  unfold semUn at h
  split at h <;> first | exact h.elim | exact ⟨_, h, fun N nx' hn => hn⟩
theorem pure_conv {s d : TypeId} {x : D} (h : semConv P s d x M nx) : PureAt (semConv P s d x) M nx := by
  unfold semConv at h
  split at h
  · rename_i k kk n hk; exact ⟨_, h.2, fun N nx' hn => by simp only [semConv, hk]; exact ⟨h.1, hn⟩⟩
  · exact h.elim
theorem pure_makeFunc {fn : Fn} {f c : List D} (h : semMakeFunc fn f c M nx) : PureAt (semMakeFunc fn f c) M nx := by
  unfold semMakeFunc at *
  split at h
  · exact ⟨_, h.2.2, fun N nx' hn => ⟨h.1, h.2.1, hn⟩⟩
  · exact h.elim
theorem pure_fieldAddr {t : TypeId} {x : D} {f : Nat} (h : semFieldAddr P t x f M nx) : PureAt (semFieldAddr P t x f) M nx := by
  unfold semFieldAddr at h
  split at h
  · rename_i fo ft hf
    obtain ⟨h0, h⟩ := h
    cases x <;> first | exact h.elim | exact ⟨_, h, fun N nx' hn => by simp only [semFieldAddr, hf]; exact ⟨h0, hn⟩⟩
  · exact h.elim
theorem pure_field {t : TypeId} {x : D} {f : Nat} (h : semField P t x f M nx) : PureAt (semField P t x f) M nx := by
  unfold semField at h
  split at h
  · rename_i fo ft cs hf
    split at h
    · rename_i ag n ha hn
      obtain ⟨d, h1, h2⟩ := pure_cells h
      exact ⟨d, h1, fun N nx' hx => by simp only [semField, hf, ha, hn]; exact h2 N nx' hx⟩
    · exact h.elim
  · exact h.elim
theorem pure_index {t : TypeId} {x i : D} (h : semIndex P t x i M nx) : PureAt (semIndex P t x i) M nx := by
  unfold semIndex at h
  split at h
  · rename_i k n s
    obtain ⟨h1, h2, ⟨h3, h4⟩, h5⟩ := h
    have hlt : n.toNat < s.size := by omega
    exact ⟨_, h5 hlt, fun N nx' hx => ⟨h1, h2, ⟨h3, h4⟩, fun _ => hx⟩⟩
  · exact h.elim
theorem pure_extract {t : D} {i : Nat} (h : semExtract t i M nx) : PureAt (semExtract t i) M nx := by
  unfold semExtract at h
  split at h
  · split at h
    · rename_i d hd; exact ⟨_, h, fun N nx' hn => by simp only [semExtract, hd]; exact hn⟩
    · exact h.elim
  · exact h.elim
theorem pure_mm {mx : Bool} {ds : List D} (h : semMM mx ds M nx) : PureAt (semMM mx ds) M nx := by
  unfold semMM at h
  split at h
  · split at h
    · rename_i r hr; exact ⟨_, h, fun N nx' hn => by simp only [semMM, hr]; exact hn⟩
    · exact h.elim
  · exact h.elim
end pure

section reads
variable {P : Program} {M : Mem} {nx : D → Mem → Prop}

theorem loc_load {t : TypeId} {p : D} (h : semLoad P t p M nx) : LocAt (ids0 p) [] (semLoad P t p) M nx := by
  unfold semLoad at h
  split at h
  · rename_i ag n ha hn
    split at h
    · rename_i id off
      split at h
      · rename_i cs hc
        obtain ⟨d, h1, h2⟩ := pure_cells h
        exact .read d h1 fun N hN nx' hx => by simp only [semLoad, ha, hn, hN id (by simp [ids0]), hc]; exact h2 N nx' hx
      · exact h.elim
    · rename_i id i off
      split at h
      · rename_i sz es ex hc
        split at h
        · rename_i e he
          obtain ⟨d, h1, h2⟩ := pure_cells h
          exact .read d h1 fun N hN nx' hx => by simp only [semLoad, ha, hn, hN id (by simp [ids0]), hc, he]; exact h2 N nx' hx
        · exact h.elim
      · exact h.elim
    · rename_i sz es i off
      split at h
      · rename_i e he
        obtain ⟨d, h1, h2⟩ := pure_cells h
        exact .read d h1 fun N hN nx' hx => by simp only [semLoad, ha, hn, he]; exact h2 N nx' hx
      · exact h.elim
    · exact h.elim
  · exact h.elim
theorem loc_indexAddr {t : TypeId} {x i : D} (h : semIndexAddr P t x i M nx) : LocAt (ids0 x) [] (semIndexAddr P t x i) M nx := by
  unfold semIndexAddr at h
  split at h
  · rename_i k n
    split at h
    · rename_i e he
      split at h
      · rename_i s sz es hs
        exact .read _ h.2.2 fun N hN nx' hx => by simp only [semIndexAddr, he, hs]; exact ⟨h.1, h.2.1, hx⟩
      · rename_i s id hs
        split at h
        · rename_i sz es ex hc
          exact .read _ h.2.2 fun N hN nx' hx => by simp only [semIndexAddr, he, hs, hN id (by simp [ids0]), hc]; exact ⟨h.1, h.2.1, hx⟩
        · exact h.elim
      · rename_i s id off k hs
        split at h
        · rename_i sz es ex hc
          exact .read _ h.2.2 fun N hN nx' hx => by simp only [semIndexAddr, he, hs, hN id (by simp [ids0]), hc]; exact ⟨h.1, h.2.1, hx⟩
        · exact h.elim
      · exact h.elim
    · rename_i len e he ha
      split at h
      · rename_i s hs
        obtain ⟨h0, h⟩ := h
        split at h <;> first
          | exact h.elim
          | exact .read _ h fun N hN nx' hx => by simp only [semIndexAddr, he, ha, hs]; exact ⟨h0, hx⟩
      · exact h.elim
    · exact h.elim
  · exact h.elim
theorem lenD_congr {N : Mem} {d : D} (h : agr (ids0 d) M N) : lenD N d = lenD M d := by
  unfold lenD; split <;> first | rfl | rw [rowsOf_congr h]
theorem loc_slice {t : TypeId} {x : D} {lo hi : Option D} (h : semSlice P t x lo hi M nx) : LocAt (ids0 x) [] (semSlice P t x lo hi) M nx := by
  unfold semSlice at h
  split at h
  · rename_i s
    obtain ⟨h0, h⟩ := h
    split at h
    · rename_i l hh h1 h2
      exact .read _ h.2 fun N hN nx' hx => by simp only [semSlice, h1, h2]; exact ⟨h0, h.1, hx⟩
    · exact h.elim
  · rename_i hns
    obtain ⟨h0, h⟩ := h
    split at h
    · rename_i n hn
      split at h
      · rename_i l hh h1 h2
        obtain ⟨hb, h⟩ := h
        have hlen : ∀ N, agr (ids0 x) M N → lenD N x = some n := fun N hN => by rw [lenD_congr hN]; exact hn
        split at h
        · exact .read _ h fun N hN nx' hx => by simp only [semSlice, hlen N hN, h1, h2]; exact ⟨h0, hb, hx⟩
        · exact .read _ h.2 fun N hN nx' hx => by simp only [semSlice, hlen N hN, h1, h2]; exact ⟨h0, hb, h.1, hx⟩
        · rename_i id
          exact .read _ h.2 fun N hN nx' hx => by simp only [semSlice, hlen N hN, h1, h2, hN id (by simp [ids0])]; exact ⟨h0, hb, h.1, hx⟩
        · rename_i id off k
          exact .read _ h.2 fun N hN nx' hx => by simp only [semSlice, hlen N hN, h1, h2, hN id (by simp [ids0])]; exact ⟨h0, hb, h.1, hx⟩
        · exact h.elim
      · exact h.elim
    · exact h.elim
theorem loc_len {t : TypeId} {x : D} (h : semLen P t x M nx) : LocAt (ids0 x) [] (semLen P t x) M nx := by
  unfold semLen at h
  split at h
  · exact .read _ h.2 fun N hN nx' hx => ⟨h.1, hx⟩
  · exact .read _ h.2 fun N hN nx' hx => ⟨h.1, hx⟩
  · rename_i h1 h2
    split at h
    · rename_i sz es hr
      refine .read _ h.2 fun N hN nx' hx => ?_
      unfold semLen
      split
      · rename_i s; simp [rowsOf] at hr
      · rename_i id off n; exact absurd rfl (h2 id off n)
      · rw [rowsOf_congr hN, hr]; exact ⟨h.1, hx⟩
    · exact h.elim
end reads

section fresh
variable {P : Program} {M : Mem} {nx : D → Mem → Prop} {fid np : Nat}

theorem agr_at {T : List Nat} {N : Mem} {i : Nat} (h : agr (T ++ [i]) M N) : N i = M i := h i (by simp)

theorem loc_alloc {t : TypeId} (h : semAlloc P t M fid nx) : LocAt [] [fid] (fun M => semAlloc P t M fid) M nx := by
  unfold semAlloc at h
  split at h
  · rename_i cs hc
    exact .write _ _ _ h.2.2 fun N hN nx' hx => by simp only [semAlloc, hc]; exact ⟨h.1, by rw [agr_at hN]; exact h.2.1, hx⟩
  · exact h.elim
theorem loc_box {d : D} (h : semBox d M fid nx) : LocAt [] [fid] (fun M => semBox d M fid) M nx :=
  .write _ _ _ h.2.2 fun N hN nx' hx => ⟨h.1, by rw [agr_at hN]; exact h.2.1, hx⟩
theorem loc_makeSlice {t : TypeId} {l c : D} (h : semMakeSlice P t l c M fid nx) : LocAt [] [fid] (fun M => semMakeSlice P t l c M fid) M nx := by
  unfold semMakeSlice at h
  split at h
  · rename_i k n k' m
    obtain ⟨hnm, h⟩ := h
    split at h
    · rename_i e he
      split at h
      · rename_i sz by' zs h1 h2 h3
        obtain ⟨a1, a2, a3, a4, a5, a6, h⟩ := h
        exact .write _ _ _ h fun N hN nx' hx => by simp only [semMakeSlice, he, h1, h2, h3]; exact ⟨hnm, a1, a2, a3, a4, a5, by rw [agr_at hN]; exact a6, hx⟩
      · exact h.elim
    · exact h.elim
  · exact h.elim
theorem bsD_congr {N : Mem} {sz : Nat} : ∀ (parts : List (Nat × D)) (es : List (List D)), (∀ p, p ∈ parts → mapO (fz N false 1) (cellsD p.2) = mapO (fz M false 1) (cellsD p.2)) → bsD N sz es parts = bsD M sz es parts
  | [], _, _ => rfl
  | (i, d) :: l, es, h => by
    simp only [bsD]
    rw [h (i, d) List.mem_cons_self]
    simp only [bsD_congr l _ fun p hp => h p (List.mem_cons_of_mem _ hp)]
theorem cells_fz_congr {N : Mem} {d : D} (h : agr (ids M 5 d) M N) : mapO (fz N false 1) (cellsD d) = mapO (fz M false 1) (cellsD d) := by
  refine mapO_congr fun x hx => ?_
  cases d with
  | agg cs => exact fz_congr 1 4 x (by omega) fun i hi => h i (by simp only [ids]; exact List.mem_flatMap.2 ⟨x, hx, hi⟩)
  | _ => simp only [cellsD, List.mem_singleton] at hx; subst hx; exact fz_congr 1 5 _ (by omega) h
theorem loc_buildSlice {t : TypeId} {len : Nat} {parts : List (Nat × D)} (hnf : (parts.map (·.2)).all (nf np M) = true) (h : semBuildSlice P np t len parts M fid nx) :
    LocAt ((parts.map (·.2)).flatMap (ids M 5)) [fid] (fun M => semBuildSlice P np t len parts M fid) M nx := by
  unfold semBuildSlice at h
  obtain ⟨h0, h⟩ := h
  split at h
  · rename_i e he
    split at h
    · rename_i sz zs h1 h2
      obtain ⟨a1, a2, a3, a4, a5, h⟩ := h
      rw [nfA_eq hnf] at h
      split at h
      · rename_i es hes
        refine .write _ _ _ h fun N hN nx' hx => ?_
        have hid : ∀ d, d ∈ parts.map (·.2) → agr (ids M 5 d) M N := fun d hd i hi => hN i (List.mem_append_left _ (List.mem_flatMap.2 ⟨d, hd, hi⟩))
        have hnf' : (parts.map (·.2)).all (nf np N) = true := by rw [all_congr fun x hx => nf_congr 4 (hid x hx)]; exact hnf
        have hes' : bsD N sz (List.replicate len zs) parts = some es := by rw [bsD_congr parts _ fun p hp => cells_fz_congr (hid p.2 (List.mem_map_of_mem hp))]; exact hes
        simp only [semBuildSlice, he, h1, h2, nfA_eq hnf', hes']
        exact ⟨h0, a1, a2, a3, a4, by rw [agr_at hN]; exact a5, hx⟩
      · exact h.elim
    · exact h.elim
  · exact h.elim
theorem loc_append {t t2 : TypeId} {s x : D} (h : semAppend P np t t2 s x M fid nx) : LocAt (ids0 x) (ids0 s ++ [fid]) (fun M => semAppend P np t t2 s x M fid) M nx := by
  unfold semAppend at h
  obtain ⟨h0, h⟩ := h
  split at h
  · rename_i e he
    split at h
    · rename_i sz by' zs szx ys h1 h2 h3 h4
      obtain ⟨a1, a2, a3, a4, h⟩ := h
      have hx' : ∀ N, agr (ids0 x ++ (ids0 s ++ [fid])) M N → rowsOf N x = some (szx, ys) ∧ N fid = none := fun N hN =>
        ⟨by rw [rowsOf_congr fun i hi => hN i (List.mem_append_left _ hi)]; exact h4, by rw [hN fid (by simp)]; exact a3⟩
      split at h
      · obtain ⟨b1, b2, h⟩ := h
        refine .write _ _ _ h fun N hN nx' hx => ?_
        obtain ⟨c1, c2⟩ := hx' N (by simpa [ids0] using hN)
        simp only [semAppend, he, h1, h2, h3, c1]
        exact ⟨h0, a1, a2, c2, a4, b1, b2, hx⟩
      · rename_i id
        split at h
        · rename_i sz' xs hc
          obtain ⟨b1, b2, b3, b4, h⟩ := h
          refine ⟨_, _, h, fun i hi => ?_, fun N hN nx' hx => ?_⟩
          · simp [ids0] at hi
            rw [upd_ne _ _ hi.2, upd_ne _ _ hi.1]
          · obtain ⟨c1, c2⟩ := hx' N hN
            have c3 : N id = some (.row sz' xs true) := by rw [hN id (by simp [ids0])]; exact hc
            have hov : ovr (ids0 (.row id) ++ [fid]) (upd (upd M id (some .dead)) fid (some (.row sz (xs ++ ys) true))) N = upd (upd N id (some .dead)) fid (some (.row sz (xs ++ ys) true)) := by
              funext j
              simp only [ovr, ids0, upd]
              by_cases h1 : j = fid
              · simp [h1]
              · by_cases h2 : j = id
                · simp [h2]
                · simp [h1, h2]
            rw [hov] at hx
            simp only [semAppend, he, h1, h2, h3, c1, c3]
            exact ⟨h0, a1, a2, c2, a4, b1, b2, b3, b4, hx⟩
        · exact h.elim
      · exact h.elim
    · exact h.elim
  · exact h.elim
theorem loc_store {t : TypeId} {p d : D} (hnf : nf np M d = true) (h : semStore P np t p d M nx) : LocAt (ids M 5 d) (ids0 p) (fun M => semStore P np t p d M) M nx := by
  unfold semStore at h
  obtain ⟨h0, h1, h⟩ := h
  split at h
  · rename_i id off
    split at h
    · rename_i cs hc
      exact .write _ _ _ h.2 fun N hN nx' hx => by simp only [semStore, agr_at hN, hc]; exact ⟨h0, h1, h.1, hx⟩
    · exact h.elim
  · rename_i id i off
    simp only [nf_eq hnf] at h
    split at h
    · rename_i sz es ds hc hds
      split at h
      · rename_i e he
        refine .write _ _ _ h.2 fun N hN nx' hx => ?_
        have hid : agr (ids M 5 d) M N := fun i hi => hN i (List.mem_append_left _ hi)
        have hnf' : nf np N d = true := by rw [nf_congr 4 hid]; exact hnf
        simp only [semStore, nf_eq hnf', agr_at hN, hc, cells_fz_congr hid, hds, he]
        exact ⟨h0, h1, h.1, hx⟩
      · exact h.elim
    · exact h.elim
  · exact h.elim
end fresh

end Go.Abs

/- The abstract machine, eighteenth part: calls depend on what they touch alone; every operation does. -/
set_option linter.unusedVariables false
set_option linter.unusedSimpArgs false
namespace Go.Abs
open Go

theorem argsV_congr {M N : Mem} {ds : List D} (h : agr (ds.flatMap (ids M 5)) M N) : argsV N ds = argsV M ds := by
  unfold argsV
  rw [mapO_congr fun x hx => fz_congr 4 5 x (by omega) fun i hi => h i (List.mem_flatMap.2 ⟨x, hx, hi⟩)]
theorem ioArg_congr {M N : Mem} {id : Nat} (h : agr (ids M 5 (.box id 0)) M N) : ioArg N id = ioArg M id := by
  unfold ioArg
  rw [h id (by simp [ids])]
  split
  · rename_i cs hc
    rw [mapO_congr fun x hx => fz_congr 1 4 x (by omega) fun i hi => h i (by simp only [ids, hc]; exact List.mem_cons_of_mem _ (List.mem_flatMap.2 ⟨x, hx, hi⟩))]
  · rfl
theorem argsF_congr {M N : Mem} : ∀ (ks : List Bool) (ds : List D), agr (ds.flatMap (ids M 5)) M N → argsF N ks ds = argsF M ks ds
  | ks, [], _ => by cases ks <;> rfl
  | ks, d :: ds, h => by
    have hd : agr (ids M 5 d) M N := fun i hi => h i (List.mem_flatMap.2 ⟨d, List.mem_cons_self, hi⟩)
    have ht : agr (ds.flatMap (ids M 5)) M N := fun i hi => by
      obtain ⟨x, hx, hi⟩ := List.mem_flatMap.1 hi
      exact h i (List.mem_flatMap.2 ⟨x, List.mem_cons_of_mem _ hx, hi⟩)
    have byVal : ∀ ks', consAD ((fz N false 1 d).map .d) (argsF N ks' ds) = consAD ((fz M false 1 d).map .d) (argsF M ks' ds) := fun ks' => by
      rw [fz_congr 1 5 d (by omega) hd, argsF_congr ks' ds ht]
    match ks, d with
    | true :: ks', .box id 0 => simp only [argsF]; rw [ioArg_congr hd, argsF_congr ks' ds ht]
    | [], d => simpa [argsF] using byVal []
    | false :: ks', d => simpa [argsF] using byVal ks'
    | true :: ks', .box id (o + 1) => simpa [argsF] using byVal ks'
    | true :: ks', .v x => simpa [argsF] using byVal ks'
    | true :: ks', .agg x => simpa [argsF] using byVal ks'
    | true :: ks', .tup x => simpa [argsF] using byVal ks'
    | true :: ks', .nils => simpa [argsF] using byVal ks'
    | true :: ks', .sl _ _ => simpa [argsF] using byVal ks'
    | true :: ks', .rp _ _ _ _ => simpa [argsF] using byVal ks'
    | true :: ks', .fn _ _ _ => simpa [argsF] using byVal ks'
    | true :: ks', .row _ => simpa [argsF] using byVal ks'
    | true :: ks', .vw _ _ _ => simpa [argsF] using byVal ks'
    | true :: ks', .elt _ _ _ => simpa [argsF] using byVal ks'
    | true :: ks', .mp _ => simpa [argsF] using byVal ks'
    | true :: ks', .it _ => simpa [argsF] using byVal ks'
    | true :: ks', .junk => simpa [argsF] using byVal ks'

theorem ioM_pt : ∀ (l : List Nat) (css : List (List D)) {M N : Mem} {id : Nat}, N id = M id → ioM N l css id = ioM M l css id
  | [], css, _, _, _, h => by cases css <;> exact h
  | i :: l, [], _, _, _, h => h
  | i :: l, cs :: css, M, N, id, h => by
    simp only [ioM]
    exact ioM_pt l css (by simp only [upd]; split <;> first | rfl | exact h)
theorem retM_pt {fid : Nat} {rs : List RD} {M N : Mem} {id : Nat} (h : N id = M id) : retM fid N rs id = retM fid M rs id := by
  rw [retM_get, retM_get, h]
theorem retM_out {fid : Nat} {rs : List RD} {M : Mem} {id : Nat} (hl : rs.length ≤ 4) (h : id ∉ fid4 fid) : retM fid M rs id = M id := by
  rw [retM_get]
  split
  · rename_i rd hrd
    exfalso
    split at hrd
    · rename_i hle
      have : id - fid < rs.length := by
        rcases Nat.lt_or_ge (id - fid) rs.length with h | h
        · exact h
        · simp [List.getElem?_eq_none h] at hrd
      apply h
      simp only [fid4, List.mem_cons, List.not_mem_nil, or_false]
      omega
    · cases hrd
  · rfl

theorem loc_call {K : Kt} (hD : KDet K) {np fid : Nat} {f : FuncId} {ds : List D} {M : Mem} {nx : D → Mem → Prop} {k : Con} (hk : K f = some k) (hs : k.srt = none) {T W : List Nat}
    (hf : (if k.clean then some (ds.flatMap (ids M 5), fid4 fid) else if ds.all (nf np M) then some (ds.flatMap (ids M 5), ioIds k.kinds ds ++ fid4 fid) else none) = some (T, W))
    (h : semCall K np f ds M fid nx) : LocN T W (fun M => semCall K np f ds M fid) M nx := by
  unfold semCall at h
  rw [hk] at h
  simp only [hs] at h
  split at h
  · rename_i hc
    rw [if_pos hc] at hf
    simp only [Option.some.injEq, Prod.mk.injEq] at hf
    obtain ⟨rfl, rfl⟩ := hf
    obtain ⟨a, h1, h2, h3⟩ := h
    obtain ⟨⟨r0, hr0⟩, hlen⟩ := hD f k hk a h2
    refine ⟨fun d M' => ∃ r, k.post a r ∧ d = tupD (retD fid r.ret) ∧ M' = retM fid M r.ret, ⟨_, _, r0, hr0, rfl, rfl⟩, ?_, fun N hN nx' hx => ?_⟩
    · rintro _ _ ⟨r, hr, rfl, rfl⟩
      exact ⟨(h3 r hr).2, fun i hi => retM_out (hlen r hr) hi⟩
    have hN1 : agr (ds.flatMap (ids M 5)) M N := fun i hi => hN i (List.mem_append_left _ hi)
    have hN2 : agr (fid4 fid) M N := fun i hi => hN i (List.mem_append_right _ hi)
    have hov : ∀ r : Res, k.post a r → ovr (fid4 fid) (retM fid M r.ret) N = retM fid N r.ret := by
      intro r hr
      funext i
      simp only [ovr]
      split
      · rename_i hi; exact (retM_pt (hN2 i hi)).symm
      · rename_i hi; exact (retM_out (hlen r hr) hi).symm
    simp only [semCall, hk, hs, hc, if_true]
    refine ⟨a, by rw [argsV_congr hN1]; exact h1, h2, fun r' hr' => ?_⟩
    have hx' := hx _ _ ⟨r', hr', rfl, rfl⟩
    rw [hov r' hr'] at hx'
    refine ⟨fun j hj => ?_, hx'⟩
    have := hlen r' hr'
    rw [hN2 (fid + j) (by simp only [fid4, List.mem_cons, List.not_mem_nil, or_false]; omega)]
    exact (h3 r' hr').1 j hj
  · rename_i hc
    rw [if_neg hc] at hf
    split at hf
    · rename_i hnf
      simp only [Option.some.injEq, Prod.mk.injEq] at hf
      obtain ⟨rfl, rfl⟩ := hf
      rw [nfA_eq hnf] at h
      obtain ⟨h0, a, h1, h2, h3⟩ := h
      obtain ⟨⟨r0, hr0⟩, hlen⟩ := hD f k hk a h2
      refine ⟨fun d M' => ∃ r, k.post a r ∧ d = tupD (retD fid r.ret) ∧ M' = retM fid (ioM M (ioIds k.kinds ds) r.io) r.ret, ⟨_, _, r0, hr0, rfl, rfl⟩, ?_, fun N hN nx' hx => ?_⟩
      · rintro _ _ ⟨r, hr, rfl, rfl⟩
        refine ⟨(h3 r hr).2, fun i hi => ?_⟩
        rw [List.mem_append, not_or] at hi
        rw [retM_out (hlen r hr) hi.2, ioM_other _ _ _ _ hi.1]
      have hN1 : agr (ds.flatMap (ids M 5)) M N := fun i hi => hN i (List.mem_append_left _ hi)
      have hN2 : agr (ioIds k.kinds ds ++ fid4 fid) M N := fun i hi => hN i (List.mem_append_right _ hi)
      have hov : ∀ r : Res, k.post a r → ovr (ioIds k.kinds ds ++ fid4 fid) (retM fid (ioM M (ioIds k.kinds ds) r.io) r.ret) N = retM fid (ioM N (ioIds k.kinds ds) r.io) r.ret := by
        intro r hr
        funext i
        simp only [ovr]
        split
        · rename_i hi; exact (retM_pt (ioM_pt _ _ (hN2 i hi))).symm
        · rename_i hi
          rw [List.mem_append, not_or] at hi
          rw [retM_out (hlen r hr) hi.2, ioM_other _ _ _ _ hi.1]
      have hnf' : ds.all (nf np N) = true := by
        rw [all_congr fun x hx => nf_congr 4 fun i hi => hN1 i (List.mem_flatMap.2 ⟨x, hx, hi⟩)]; exact hnf
      simp only [semCall, hk, hs, hc, nfA_eq hnf']
      refine ⟨h0, a, by rw [argsF_congr _ _ hN1]; exact h1, h2, fun r' hr' => ?_⟩
      have hx' := hx _ _ ⟨r', hr', rfl, rfl⟩
      rw [hov r' hr'] at hx'
      refine ⟨fun j hj => ?_, hx'⟩
      have := hlen r' hr'
      rw [hN2 (fid + j) (List.mem_append_right _ (by simp only [fid4, List.mem_cons, List.not_mem_nil, or_false]; omega))]
      exact (h3 r' hr').1 j hj
    · cases hf

theorem loc_lookup {P : Program} {t : TypeId} {id : Nat} {k : D} {ok : Bool} {M : Mem} {nx : D → Mem → Prop} (h : semLookup P t (.mp id) k ok M nx) : LocAt [id] [] (semLookup P t (.mp id) k ok) M nx := by
  have hat : ∀ N, agr [id] M N → N id = M id := fun N hN => hN id (by simp)
  simp only [semLookup] at h
  split at h
  · rename_i kvs hmi
    unfold semLookupR at h
    split at h
    · rename_i kt et hkv
      obtain ⟨hk, h⟩ := h
      split at h
      · rename_i i v hf
        refine .read _ h fun N hN nx' hn => ?_
        simp only [semLookup, hat N hN, hmi, semLookupR, hkv, hf]
        exact ⟨hk, hn⟩
      · rename_i hf
        split at h
        · rename_i z hz
          refine .read _ h.2 fun N hN nx' hn => ?_
          simp only [semLookup, hat N hN, hmi, semLookupR, hkv, hf, hz]
          exact ⟨hk, h.1, hn⟩
        · exact h.elim
      · exact h.elim
    · exact h.elim
  · rename_i hno
    unfold semLookup0 at h
    split at h
    · rename_i id' kt et he hkv
      cases he
      obtain ⟨hk, h⟩ := h
      split at h
      · rename_i kvs ex hmi
        split at h
        · rename_i i v hf
          refine .read _ h fun N hN nx' hn => ?_
          simp only [semLookup, hat N hN, hmi, semLookup0, hkv, hf]
          exact ⟨hk, hn⟩
        · rename_i hf
          split at h
          · rename_i z hz
            refine .read _ h.2 fun N hN nx' hn => ?_
            simp only [semLookup, hat N hN, hmi, semLookup0, hkv, hf, hz]
            exact ⟨hk, h.1, hn⟩
          · exact h.elim
        · exact h.elim
      · exact h.elim
    · exact h.elim
theorem loc_mapR {P : Program} {np : Nat} {t : TypeId} {id : Nat} {kvs : List (D × Nat)} {k v : D} {M : Mem} {nx : D → Mem → Prop} (hmi : M id = some (.rmap kvs)) (h : semMapUpdate P np t (.mp id) k v M nx) : LocAt [] [id] (semMapUpdate P np t (.mp id) k v) M nx := by
  simp only [semMapUpdate, hmi] at h
  cases v with
  | row rid =>
    simp only [semMapR] at h
    split at h
    · rename_i kt et hkv
      obtain ⟨hk, h⟩ := h
      split at h
      · rename_i kvs' hs
        refine .write _ _ _ h fun N hN nx' hn => ?_
        have hat : N id = M id := hN id (by simp)
        simp only [semMapUpdate, hat, hmi, semMapR, hkv, hs]
        exact ⟨hk, hn⟩
      · exact h.elim
    · exact h.elim
  | _ => exact h.elim

theorem sem_loc {P : Program} {K : Kt} {np fid : Nat} {op : Op} (hv : vcall op = false) {ρ : Operand → D} {M : Mem} {nx : D → Mem → Prop} {T W : List Nat} (hf : foot K np op ρ M fid = some (T, W))
    (h : sem P K np op ρ M fid nx) : LocAt T W (fun M => sem P K np op ρ M fid) M nx := by
  unfold foot at hf
  split at hf <;> first
    | (simp only [Option.some.injEq, Prod.mk.injEq] at hf; obtain ⟨rfl, rfl⟩ := hf)
    | skip
  · exact PureAt.loc ⟨_, h, fun N nx' hn => hn⟩
  · exact PureAt.loc ⟨_, h, fun N nx' hn => hn⟩
  · exact (pure_pick h).loc
  · exact (pure_build h).loc
  · exact (pure_nil h).loc
  · exact (pure_un h).loc
  · exact (pure_conv h).loc
  · exact (pure_makeFunc h).loc
  · exact (pure_fieldAddr h).loc
  · exact (pure_field h).loc
  · exact (pure_index h).loc
  · exact (pure_extract h).loc
  · split at hf
    · cases hf
    · rename_i hs
      simp only [Option.some.injEq, Prod.mk.injEq] at hf; obtain ⟨rfl, rfl⟩ := hf
      exact (pure_bin (by simpa using hs) h).loc
  · exact loc_alloc h
  · exact loc_box h
  · exact loc_makeSlice h
  · exact loc_load h
  · exact loc_indexAddr h
  · exact loc_slice h
  · split at hf
    · rename_i hnf
      simp only [Option.some.injEq, Prod.mk.injEq] at hf; obtain ⟨rfl, rfl⟩ := hf
      exact loc_buildSlice hnf h
    · cases hf
  · rename_i t m k ok
    split at hf
    · rename_i id hm
      simp only [Option.some.injEq, Prod.mk.injEq] at hf; obtain ⟨rfl, rfl⟩ := hf
      have e : (fun M => sem P K np (.lookup t m k ok) ρ M fid) = semLookup P t (.mp id) (ρ k) ok := by funext M nx; simp only [sem, hm]
      simp only [sem, hm] at h
      rw [e]
      exact loc_lookup h
    · exfalso
      rename_i hno
      simp only [sem] at h
      unfold semLookup at h
      split at h
      · rename_i id hm; exact hno id hm
      · exact h
  · rename_i t m k x
    split at hf
    · rename_i id hm
      split at hf
      · rename_i hmi
        simp only [Option.some.injEq, Prod.mk.injEq] at hf; obtain ⟨rfl, rfl⟩ := hf
        have e : (fun M => sem P K np (.mapUpdate t m k x) ρ M fid) = semMapUpdate P np t (.mp id) (ρ k) (ρ x) := by funext M nx; simp only [sem, hm]
        simp only [sem, hm] at h
        rw [e]
        exact loc_mapR hmi h
      · cases hf
    · cases hf
  · split at hf
    · rename_i hnf
      simp only [Option.some.injEq, Prod.mk.injEq] at hf; obtain ⟨rfl, rfl⟩ := hf
      exact loc_store hnf h
    · cases hf
  · rename_i c
    obtain ⟨callee, args, argTypes⟩ := c
    split at hf
    · rename_i b hb
      simp only at hb; subst hb
      simp only [sem] at h
      generalize hds : args.toList.map ρ = ds at hf h
      have goal : LocAt T W (fun M => semBuiltin P np b ds argTypes.toList M fid) M nx → LocAt T W (fun M => sem P K np (.call ⟨.builtin b, args, argTypes⟩) ρ M fid) M nx := by
        intro hg
        have e : (fun M => sem P K np (.call ⟨.builtin b, args, argTypes⟩) ρ M fid) = fun M => semBuiltin P np b ds argTypes.toList M fid := by rw [← hds]; rfl
        rw [e]; exact hg
      refine goal ?_
      generalize argTypes.toList = ts at h ⊢
      split at hf
      · simp only [Option.some.injEq, Prod.mk.injEq] at hf; obtain ⟨rfl, rfl⟩ := hf
        unfold semBuiltin at h
        split at h <;> first | exact h.elim | skip
        all_goals simp_all
        rename_i hh
        obtain ⟨rfl, rfl⟩ := hh
        exact loc_len h
      · simp only [Option.some.injEq, Prod.mk.injEq] at hf; obtain ⟨rfl, rfl⟩ := hf
        unfold semBuiltin at h
        split at h <;> first | exact h.elim | skip
        all_goals simp_all
        exact loc_append h
      · simp only [Option.some.injEq, Prod.mk.injEq] at hf; obtain ⟨rfl, rfl⟩ := hf
        simp only [semBuiltin] at h ⊢
        exact (pure_mm h).loc
      · simp only [Option.some.injEq, Prod.mk.injEq] at hf; obtain ⟨rfl, rfl⟩ := hf
        simp only [semBuiltin] at h ⊢
        exact (pure_mm h).loc
      · cases hf
    · rename_i f hb
      simp only at hb; subst hb
      simp [vcall] at hv
    · cases hf
  · cases hf

theorem LocAt.toN {T W : List Nat} {f : Mem → (D → Mem → Prop) → Prop} {M : Mem} {nx : D → Mem → Prop} (h : LocAt T W f M nx) : LocN T W f M nx := by
  obtain ⟨d, M', h1, h2, h3⟩ := h
  exact ⟨fun x y => x = d ∧ y = M', ⟨d, M', rfl, rfl⟩, by rintro _ _ ⟨rfl, rfl⟩; exact ⟨h1, h2⟩, fun N hN nx' hx => h3 N hN nx' (hx d M' ⟨rfl, rfl⟩)⟩
theorem sem_locN {P : Program} {K : Kt} (hD : KDet K) {np fid : Nat} {op : Op} {ρ : Operand → D} {M : Mem} {nx : D → Mem → Prop} {T W : List Nat} (hf : foot K np op ρ M fid = some (T, W))
    (h : sem P K np op ρ M fid nx) : LocN T W (fun M => sem P K np op ρ M fid) M nx := by
  cases hv : vcall op with
  | false => exact (sem_loc hv hf h).toN
  | true =>
    cases op with
    | call c =>
      obtain ⟨callee, args, argTypes⟩ := c
      cases callee with
      | value f =>
        simp only [foot] at hf
        split at hf
        · rename_i ff first caps hfn
          have e : (fun M => sem P K np (.call ⟨.value f, args, argTypes⟩) ρ M fid) = fun M => semCall K np ff (first ++ args.toList.map ρ ++ caps) M fid := by funext M nx; simp only [sem, hfn]
          simp only [sem, hfn] at h
          split at hf
          · rename_i k hk
            split at hf
            · cases hf
            · rename_i hsn; rw [e]; exact loc_call hD hk hsn hf h
          · cases hf
        · exfalso
          rename_i hno
          revert h
          simp only [sem]
          exact fun h => h
      | _ => simp [vcall] at hv
    | _ => simp [vcall] at hv

end Go.Abs

/- The abstract machine: what an operation does, other than a call, is one thing. -/
set_option linter.unusedVariables false
set_option linter.unusedSimpArgs false
namespace Go.Abs
open Go

/-- Whatever holds behind it holds of one outcome. -/
def One (f : (D → Mem → Prop) → Prop) : Prop := ∀ nx1 nx2 : D → Mem → Prop, f nx1 → f nx2 → ∃ d M', nx1 d M' ∧ nx2 d M'

section one
variable {P : Program} {M : Mem} {fid np : Nat}
theorem one_pick {c a b : D} : One (semPick c a b M) := by
  intro nx1 nx2 h1 h2
  unfold semPick at h1 h2
  split at h1
  · rename_i t
    cases t
    · exact ⟨_, _, h1.2 rfl, h2.2 rfl⟩
    · exact ⟨_, _, h1.1 rfl, h2.1 rfl⟩
  · exact h1.elim
theorem one_alloc {t : TypeId} : One (semAlloc P t M fid) := by
  intro nx1 nx2 h1 h2
  unfold semAlloc at h1 h2
  split at h1
  · rename_i cs hc; simp only [hc] at h2; exact ⟨_, _, h1.2.2, h2.2.2⟩
  · exact h1.elim
theorem one_box {d : D} : One (semBox d M fid) := fun nx1 nx2 h1 h2 => ⟨_, _, h1.2.2, h2.2.2⟩
theorem one_cell {cs : List D} {off : Nat} : One (getCell cs off M) := by
  intro nx1 nx2 h1 h2
  unfold getCell at h1 h2
  split at h1
  · rename_i x hc; simp only [hc] at h2; exact ⟨_, _, h1, h2⟩
  · exact h1.elim
theorem one_cells {ag : Bool} {n : Nat} {cs : List D} {off : Nat} : One (getCells ag n cs off M) := by
  intro nx1 nx2 h1 h2
  unfold getCells at h1 h2
  split at h1
  · rename_i hc; simp only [hc, if_true] at h2; exact ⟨_, _, h1.2, h2.2⟩
  · rename_i hc; simp only [hc] at h2; exact one_cell _ _ h1 h2
theorem one_load {t : TypeId} {p : D} : One (semLoad P t p M) := by
  intro nx1 nx2 h1 h2
  unfold semLoad at h1 h2
  split at h1
  · rename_i ag n ha hn
    simp only [ha, hn] at h2
    split at h1
    · rename_i id off
      split at h1
      · rename_i cs hc; simp only [hc] at h2; exact one_cells _ _ h1 h2
      · exact h1.elim
    · rename_i id i off
      split at h1
      · rename_i sz es ex hc
        simp only [hc] at h2
        split at h1
        · rename_i e he; simp only [he] at h2; exact one_cells _ _ h1 h2
        · exact h1.elim
      · exact h1.elim
    · rename_i sz es i off
      split at h1
      · rename_i e he; simp only [he] at h2; exact one_cells _ _ h1 h2
      · exact h1.elim
    · exact h1.elim
  · exact h1.elim
theorem one_store {t : TypeId} {p d : D} : One (semStore P np t p d M) := by
  intro nx1 nx2 h1 h2
  unfold semStore at h1 h2
  obtain ⟨a1, a2, h1⟩ := h1
  obtain ⟨b1, b2, h2⟩ := h2
  split at h1
  · rename_i id off
    split at h1
    · rename_i cs hc; simp only [hc] at h2; exact ⟨_, _, h1.2, h2.2⟩
    · exact h1.elim
  · rename_i id i off
    simp only at h1 h2
    split at h1
    · rename_i sz es ds hc hds
      simp only [hc, hds] at h2
      split at h1
      · rename_i e he; simp only [he] at h2; exact ⟨_, _, h1.2, h2.2⟩
      · exact h1.elim
    · exact h1.elim
  · exact h1.elim
theorem one_build {t : TypeId} {parts : List (Nat × D)} : One (semBuildT P t parts M) := by
  intro nx1 nx2 h1 h2
  unfold semBuildT at h1 h2
  obtain ⟨a1, h1⟩ := h1
  obtain ⟨b1, h2⟩ := h2
  split at h1
  · rename_i zs pl hz hp
    simp only [hz, hp] at h2
    obtain ⟨a2, h1⟩ := h1
    obtain ⟨b2, h2⟩ := h2
    split at h1
    · rename_i cs hcs; simp only [hcs] at h2; exact ⟨_, _, h1, h2⟩
    · exact h1.elim
  · exact h1.elim
theorem one_fieldAddr {t : TypeId} {x : D} {f : Nat} : One (semFieldAddr P t x f M) := by
  intro nx1 nx2 h1 h2
  unfold semFieldAddr at h1 h2
  split at h1
  · rename_i fo ft hf
    simp only [hf] at h2
    obtain ⟨a1, h1⟩ := h1
    obtain ⟨b1, h2⟩ := h2
    cases x <;> first | exact h1.elim | exact ⟨_, _, h1, h2⟩
  · exact h1.elim
theorem one_field {t : TypeId} {x : D} {f : Nat} : One (semField P t x f M) := by
  intro nx1 nx2 h1 h2
  unfold semField at h1 h2
  split at h1
  · rename_i fo ft cs hf
    simp only [hf] at h2
    split at h1
    · rename_i ag n ha hn; simp only [ha, hn] at h2; exact one_cells _ _ h1 h2
    · exact h1.elim
  · exact h1.elim
theorem one_indexAddr {t : TypeId} {x i : D} : One (semIndexAddr P t x i M) := by
  intro nx1 nx2 h1 h2
  unfold semIndexAddr at h1 h2
  split at h1
  · rename_i k n
    simp only at h2
    split at h1
    · rename_i e he
      simp only [he] at h2
      split at h1
      · rename_i s sz es hs; simp only [hs] at h2; exact ⟨_, _, h1.2.2, h2.2.2⟩
      · rename_i s id hs
        simp only [hs] at h2
        split at h1
        · rename_i sz es ex hc; simp only [hc] at h2; exact ⟨_, _, h1.2.2, h2.2.2⟩
        · exact h1.elim
      · rename_i s id off k hs
        simp only [hs] at h2
        split at h1
        · rename_i sz es ex hc; simp only [hc] at h2; exact ⟨_, _, h1.2.2, h2.2.2⟩
        · exact h1.elim
      · exact h1.elim
    · rename_i len e he ha
      simp only [he, ha] at h2
      split at h1
      · rename_i s hs
        simp only [hs] at h2
        obtain ⟨a1, h1⟩ := h1
        obtain ⟨b1, h2⟩ := h2
        cases x <;> first | exact h1.elim | exact ⟨_, _, h1, h2⟩
      · exact h1.elim
    · exact h1.elim
  · exact h1.elim
theorem one_index {t : TypeId} {x i : D} : One (semIndex P t x i M) := by
  intro nx1 nx2 h1 h2
  unfold semIndex at h1 h2
  split at h1
  · rename_i k n s
    obtain ⟨a1, a2, ⟨a3, a4⟩, a5⟩ := h1
    obtain ⟨b1, b2, b3, b5⟩ := h2
    have hlt : n.toNat < s.size := by omega
    exact ⟨_, _, a5 hlt, b5 hlt⟩
  · exact h1.elim
theorem one_binV {op : BinOp} {t : TypeId} {x y : Value} : One (semBinV P op t x y M) := by
  intro nx1 nx2 h1 h2
  unfold semBinV at h1
  split at h1
  · exact ⟨_, _, h1.2.2, h2.2.2⟩
  · exact ⟨_, _, h1.2.2, h2.2.2⟩
  · exact ⟨_, _, h1.2, h2.2⟩
  · exact ⟨_, _, h1.2, h2.2⟩
  · obtain ⟨hk, h1⟩ := h1
    split at h1
    · rename_i n1 n2 n3 n4 v hv
      unfold semBinV at h2
      split at h2 <;> first
        | (exfalso; simp_all; done)
        | (rename_i e1 e2 _; cases e1; cases e2; obtain ⟨_, h2⟩ := h2; simp only [hv] at h2; exact ⟨_, _, h1, h2⟩)
    · exact h1.elim
  · exact ⟨_, _, h1.2, h2.2⟩
  · exact ⟨_, _, h1.2, h2.2⟩
  · exact ⟨_, _, h1, h2⟩
  · exact ⟨_, _, h1, h2⟩
  · exact ⟨_, _, h1.2, h2.2⟩
  · exact h1.elim
theorem one_bin {op : BinOp} {t : TypeId} {x y : D} (hx : slD x = false) : One (semBin P op t x y M) := by
  intro nx1 nx2 h1 h2
  unfold semBin at h1
  split at h1
  · exact one_binV _ _ h1 h2
  · rename_i ds es
    obtain ⟨a1, h1⟩ := h1
    obtain ⟨b1, h2⟩ := h2
    split at h1
    · rename_i b hb; simp only [hb] at h2; exact ⟨_, _, h1, h2⟩
    · rename_i b hb; simp only [hb] at h2; exact ⟨_, _, h1, h2⟩
    · exact h1.elim
  · obtain ⟨a1, h1⟩ := h1
    obtain ⟨b1, h2⟩ := h2
    split at h1
    · exact ⟨_, _, h1, h2⟩
    · exact ⟨_, _, h1, h2⟩
    · exact h1.elim
  · cases hx
  · exact h1.elim
theorem one_un {op : UnOp} {x : D} : One (semUn op x M) := by
  intro nx1 nx2 h1 h2
  unfold semUn at h1
  split at h1 <;> first | exact h1.elim | exact ⟨_, _, h1, h2⟩
theorem one_conv {s d : TypeId} {x : D} : One (semConv P s d x M) := by
  intro nx1 nx2 h1 h2
  unfold semConv at h1 h2
  split at h1
  · rename_i k kk n hk; simp only [hk] at h2; exact ⟨_, _, h1.2, h2.2⟩
  · exact h1.elim
theorem one_extract {t : D} {i : Nat} : One (semExtract t i M) := by
  intro nx1 nx2 h1 h2
  unfold semExtract at h1 h2
  split at h1
  · split at h1
    · rename_i d hd; simp only [hd] at h2; exact ⟨_, _, h1, h2⟩
    · exact h1.elim
  · exact h1.elim
theorem one_nil {x : D} : One (semNil x M) := by
  intro nx1 nx2 h1 h2
  unfold semNil at h1 h2
  cases x <;> first | exact h1.elim | exact ⟨_, _, h1, h2⟩
theorem one_makeFunc {fn : Fn} {f c : List D} : One (semMakeFunc fn f c M) := by
  intro nx1 nx2 h1 h2
  unfold semMakeFunc at h1 h2
  split at h1
  · exact ⟨_, _, h1.2.2, h2.2.2⟩
  · exact h1.elim
theorem one_makeSlice {t : TypeId} {l c : D} : One (semMakeSlice P t l c M fid) := by
  intro nx1 nx2 h1 h2
  unfold semMakeSlice at h1 h2
  split at h1
  · rename_i k n k' m
    obtain ⟨a1, h1⟩ := h1
    obtain ⟨b1, h2⟩ := h2
    split at h1
    · rename_i e he
      simp only [he] at h2
      split at h1
      · rename_i sz by' zs q1 q2 q3
        simp only [q1, q2, q3] at h2
        obtain ⟨_, _, _, _, _, _, h1⟩ := h1
        obtain ⟨_, _, _, _, _, _, h2⟩ := h2
        exact ⟨_, _, h1, h2⟩
      · exact h1.elim
    · exact h1.elim
  · exact h1.elim
theorem one_buildSlice {t : TypeId} {len : Nat} {parts : List (Nat × D)} : One (semBuildSlice P np t len parts M fid) := by
  intro nx1 nx2 h1 h2
  unfold semBuildSlice at h1 h2
  obtain ⟨a0, h1⟩ := h1
  obtain ⟨b0, h2⟩ := h2
  split at h1
  · rename_i e he
    simp only [he] at h2
    split at h1
    · rename_i sz zs q1 q2
      simp only [q1, q2] at h2
      obtain ⟨a1, a2, a3, a4, a5, h1⟩ := h1
      obtain ⟨b1, b2, b3, b4, b5, h2⟩ := h2
      split at h1
      · rename_i es hes; simp only [hes] at h2; exact ⟨_, _, h1, h2⟩
      · exact h1.elim
    · exact h1.elim
  · exact h1.elim
theorem one_slice {t : TypeId} {x : D} {lo hi : Option D} : One (semSlice P t x lo hi M) := by
  intro nx1 nx2 h1 h2
  unfold semSlice at h1 h2
  split at h1
  · rename_i s
    obtain ⟨a0, h1⟩ := h1
    obtain ⟨b0, h2⟩ := h2
    split at h1
    · rename_i l hh q1 q2; simp only [q1, q2] at h2; exact ⟨_, _, h1.2, h2.2⟩
    · exact h1.elim
  · rename_i hns
    have e2 := h2
    obtain ⟨a0, h1⟩ := h1
    split at h2
    · exact absurd rfl (hns _)
    obtain ⟨b0, h2⟩ := h2
    split at h1
    · rename_i n hn
      simp only [hn] at h2
      split at h1
      · rename_i l hh q1 q2
        simp only [q1, q2] at h2
        obtain ⟨a1, h1⟩ := h1
        obtain ⟨b1, h2⟩ := h2
        split at h1
        · exact ⟨_, _, h1, h2⟩
        · exact ⟨_, _, h1.2, h2.2⟩
        · exact ⟨_, _, h1.2, h2.2⟩
        · exact ⟨_, _, h1.2, h2.2⟩
        · exact h1.elim
      · exact h1.elim
    · exact h1.elim
theorem one_len {t : TypeId} {x : D} : One (semLen P t x M) := by
  intro nx1 nx2 h1 h2
  unfold semLen at h1
  split at h1
  · exact ⟨_, _, h1.2, h2.2⟩
  · exact ⟨_, _, h1.2, h2.2⟩
  · rename_i q1 q2
    split at h1
    · rename_i sz es hr
      unfold semLen at h2
      split at h2
      · rename_i s; exact absurd rfl (q1 s)
      · rename_i id off n; exact absurd rfl (q2 id off n)
      · simp only [hr] at h2; exact ⟨_, _, h1.2, h2.2⟩
    · exact h1.elim
theorem one_append {t t2 : TypeId} {s x : D} : One (semAppend P np t t2 s x M fid) := by
  intro nx1 nx2 h1 h2
  unfold semAppend at h1 h2
  obtain ⟨a0, h1⟩ := h1
  obtain ⟨b0, h2⟩ := h2
  split at h1
  · rename_i e he
    simp only [he] at h2
    split at h1
    · rename_i sz by' zs szx ys q1 q2 q3 q4
      simp only [q1, q2, q3, q4] at h2
      obtain ⟨a1, a2, a3, a4, h1⟩ := h1
      obtain ⟨b1, b2, b3, b4, h2⟩ := h2
      split at h1
      · obtain ⟨_, _, h1⟩ := h1
        obtain ⟨_, _, h2⟩ := h2
        exact ⟨_, _, h1, h2⟩
      · rename_i id
        split at h1
        · rename_i sz' xs hc
          simp only [hc] at h2
          obtain ⟨_, _, _, _, h1⟩ := h1
          obtain ⟨_, _, _, _, h2⟩ := h2
          exact ⟨_, _, h1, h2⟩
        · exact h1.elim
      · exact h1.elim
    · exact h1.elim
  · exact h1.elim
theorem one_mm {mx : Bool} {ds : List D} : One (semMM mx ds M) := by
  intro nx1 nx2 h1 h2
  unfold semMM at h1 h2
  split at h1
  · split at h1
    · rename_i r hr; simp only [hr] at h2; exact ⟨_, _, h1, h2⟩
    · exact h1.elim
  · exact h1.elim
theorem one_lookup {t : TypeId} {m k : D} {ok : Bool} : One (semLookup P t m k ok M) := by
  intro nx1 nx2 h1 h2
  unfold semLookup at h1 h2
  cases m with
  | mp id =>
    simp only at h1 h2
    split at h1
    · rename_i kvs hmi
      simp only [hmi] at h2
      unfold semLookupR at h1 h2
      split at h1
      · rename_i kt et hkv
        simp only [hkv] at h2
        obtain ⟨_, h1⟩ := h1
        obtain ⟨_, h2⟩ := h2
        split at h1
        · rename_i i v hf; simp only [hf] at h2; exact ⟨_, _, h1, h2⟩
        · rename_i hf
          simp only [hf] at h2
          split at h1
          · rename_i z hz; simp only [hz] at h2; exact ⟨_, _, h1.2, h2.2⟩
          · exact h1.elim
        · exact h1.elim
      · exact h1.elim
    · rename_i hno
      split at h2
      · rename_i kvs hmi; exact absurd hmi (hno kvs)
      unfold semLookup0 at h1 h2
      split at h1
      · rename_i id' kt et he hkv
        cases he
        simp only [hkv] at h2
        obtain ⟨_, h1⟩ := h1
        obtain ⟨_, h2⟩ := h2
        split at h1
        · rename_i kvs ex hmi
          simp only [hmi] at h2
          split at h1
          · rename_i i v hf; simp only [hf] at h2; exact ⟨_, _, h1, h2⟩
          · rename_i hf
            simp only [hf] at h2
            split at h1
            · rename_i z hz; simp only [hz] at h2; exact ⟨_, _, h1.2, h2.2⟩
            · exact h1.elim
          · exact h1.elim
        · exact h1.elim
      · exact h1.elim
  | _ => exact h1.elim
theorem one_map {t : TypeId} {m k v : D} : One (semMapUpdate P np t m k v M) := by
  intro nx1 nx2 h1 h2
  unfold semMapUpdate at h1 h2
  cases m with
  | mp id =>
    simp only at h1 h2
    split at h1
    · rename_i kvs hmi
      simp only [hmi] at h2
      cases v with
      | row rid =>
        simp only [semMapR] at h1 h2
        split at h1
        · rename_i kt et hkv
          simp only [hkv] at h2
          obtain ⟨_, h1⟩ := h1
          obtain ⟨_, h2⟩ := h2
          split at h1
          · rename_i kvs' hs; simp only [hs] at h2; exact ⟨_, _, h1, h2⟩
          · exact h1.elim
        · exact h1.elim
      | _ => exact h1.elim
    · rename_i hno
      split at h2
      · rename_i kvs hmi; exact absurd hmi (hno kvs)
      unfold semMapUpdate0 at h1 h2
      split at h1
      · rename_i id' kt et he hkv
        cases he
        simp only [hkv] at h2
        obtain ⟨_, h1⟩ := h1
        obtain ⟨_, h2⟩ := h2
        split at h1
        · rename_i kvs v' hmi hv
          simp only [hmi, hv] at h2
          split at h1
          · rename_i kvs' hs; simp only [hs] at h2; exact ⟨_, _, h1, h2⟩
          · exact h1.elim
        · exact h1.elim
      · exact h1.elim
  | _ => exact h1.elim
end one

theorem sem_one {P : Program} {K : Kt} {np fid : Nat} {op : Op} (hv : vcall op = false) {ρ : Operand → D} {M N : Mem} {T W : List Nat} (hf : foot K np op ρ M fid = some (T, W)) : One (sem P K np op ρ N fid) := by
  cases op with
  | move x => exact fun nx1 nx2 h1 h2 => ⟨_, _, h1, h2⟩
  | assign x => exact fun nx1 nx2 h1 h2 => ⟨_, _, h1, h2⟩
  | pick c a b => exact one_pick
  | build t ps => exact one_build
  | nilCheck x => exact one_nil
  | unOp op t x => exact one_un
  | convert s d x => exact one_conv
  | makeFunc fn f c => exact one_makeFunc
  | fieldAddr t x f => exact one_fieldAddr
  | field t x f => exact one_field
  | index t x i => exact one_index
  | extract t i => exact one_extract
  | binOp op t x y u =>
    simp only [foot] at hf
    split at hf
    · cases hf
    · rename_i hs; exact one_bin (by simpa using hs)
  | alloc t => exact one_alloc
  | box t x => exact one_box
  | makeSlice t l c => exact one_makeSlice
  | load t a => exact one_load
  | indexAddr t x i => exact one_indexAddr
  | slice t x lo hi mx =>
    cases mx with
    | none => exact one_slice
    | some m => simp [foot] at hf
  | buildSlice t n ps => exact one_buildSlice
  | lookup t m k ok => exact one_lookup
  | mapUpdate t m k x => exact one_map
  | store t a x => exact one_store
  | call c =>
    obtain ⟨callee, args, argTypes⟩ := c
    cases callee with
    | value f => simp [vcall] at hv
    | builtin b =>
      intro nx1 nx2 h1 h2
      simp only [sem] at h1 h2
      simp only [foot] at hf
      generalize args.toList.map ρ = ds at hf h1 h2
      generalize argTypes.toList = ts at h1 h2
      split at hf
      · rename_i x
        unfold semBuiltin at h1 h2
        split at h1 <;> first | exact h1.elim | skip
        all_goals simp_all
        exact one_len _ _ h1 h2
      · rename_i s x
        unfold semBuiltin at h1 h2
        split at h1 <;> first | exact h1.elim | skip
        all_goals simp_all
        exact one_append _ _ h1 h2
      · simp only [semBuiltin] at h1 h2; exact one_mm _ _ h1 h2
      · simp only [semBuiltin] at h1 h2; exact one_mm _ _ h1 h2
      · cases hf
    | _ => simp [foot] at hf
  | _ => simp [foot] at hf

end Go.Abs

/- The abstract machine, nineteenth part: regions whose order is drawn. -/
set_option linter.unusedVariables false
set_option linter.unusedSimpArgs false
namespace Go.Abs
open Go

theorem partsD_congr {ρ ρ' : Operand → D} {ps : Array (Nat × Operand)} (h : ∀ x ∈ ps.map (·.2), ρ' x = ρ x) : partsD ρ' ps = partsD ρ ps := by
  unfold partsD
  refine List.map_congr_left fun p hp => ?_
  obtain ⟨i, x⟩ := p
  simp only [h x (Array.mem_map.2 ⟨(i, x), by simpa using hp, rfl⟩)]
theorem mapD_congr {ρ ρ' : Operand → D} {ps : Array Operand} (h : ∀ x ∈ ps, ρ' x = ρ x) : ps.toList.map ρ' = ps.toList.map ρ :=
  List.map_congr_left fun x hx => h x (by simpa using hx)

theorem sem_congr {P : Program} {K : Kt} {np fid : Nat} {op : Op} {ρ ρ' : Operand → D} {M : Mem} {nx : D → Mem → Prop} (h : ∀ x ∈ op.operands, ρ' x = ρ x) (hs : sem P K np op ρ M fid nx) : sem P K np op ρ' M fid nx := by
  cases op <;> simp only [Op.operands] at h <;> (try simp only [sem] at hs ⊢)
  case makeMap t r => cases r <;> exact hs
  case build t ps => rw [partsD_congr fun x hx => h x (by simpa using hx)]; exact hs
  case buildSlice t n ps => rw [partsD_congr fun x hx => h x (by simpa using hx)]; exact hs
  case makeFunc fn f c => rw [mapD_congr (ps := f) fun x hx => h x (by simp [hx]), mapD_congr (ps := c) fun x hx => h x (by simp [hx])]; exact hs
  case call c =>
    obtain ⟨callee, args, argTypes⟩ := c
    simp only [Call.operands] at h
    cases callee with
    | builtin b => simp only at hs ⊢; rw [mapD_congr (ps := args) fun x hx => h x (by simp [hx])]; exact hs
    | value f =>
      simp only at hs ⊢
      rw [h f (by simp), mapD_congr (ps := args) fun x hx => h x (by simp [hx])]; exact hs
    | _ => exact hs
  case slice t x lo hi mx =>
    cases mx <;> simp only at hs ⊢
    cases lo <;> cases hi <;> simp_all
  all_goals first
    | exact hs
    | exact hs.elim
    | (simp only [Array.mem_push, Array.mem_append, Array.not_mem_empty, false_or, Array.mem_singleton, List.mem_toArray, List.mem_cons, List.not_mem_nil, or_false, forall_eq_or_imp, forall_eq, List.toArray] at h
       simp_all)

/-- A state from which an operation does what it did. -/
def ovS (dst : Option Tmp) (W : List Nat) (s' t : S) : S := ⟨fun j => if dst = some j then s'.env j else t.env j, ovr W s'.mem t.mem, t.nx⟩

section steps
variable {P : Program} {K : Kt} {n np : Nat} {ops : Array Oper}

/-- Agreement on what a step looks at. -/
def Alike (ops : Array Oper) (o : Oper) (F : List Nat) (s t : S) : Prop := agr F s.mem t.mem ∧ ∀ j, j ∈ o.looksAt ops → t.env j = s.env j
structure RsN (P : Program) (K : Kt) (n np : Nat) (ops : Array Oper) (o : Oper) (fid : Nat) (T W : List Nat) (s : S) (O : S → Prop) : Prop where
  ne : ∃ t, O t
  mem : ∀ t, O t → ∀ id, id ∉ W → t.mem id = s.mem id
  env : ∀ t, O t → ∀ j, o.dst ≠ some j → t.env j = s.env j
  nx : ∀ t, O t → t.nx = s.nx
  again : ∀ t : S, Alike ops o (T ++ W) s t → ∀ Q : S → Prop, (∀ u, O u → Q (ovS o.dst W u t)) → stepOp P K n np ops o fid t Q
  det : vcall o.op = false → ∃ v, O v ∧ (∀ u, O u → u = v) ∧ ∀ t : S, Alike ops o (T ++ W) s t → ∀ a, stepOp P K n np ops o fid t (· = a) → a = ovS o.dst W v t

theorem opd_congr {s t : S} {o : Oper} (h : ∀ j, j ∈ o.looksAt ops → t.env j = s.env j) : ∀ x ∈ o.op.operands, opd t x = opd s x := by
  intro x hx
  cases x with
  | tmp j => exact h j (List.mem_append_left _ (List.mem_filterMap.2 ⟨.tmp j, by simpa using hx, rfl⟩))
  | const v => cases v <;> rfl
  | func f => rfl
  | global g => rfl

theorem put_ovS {s t : S} {dst : Option Tmp} {d : D} {W : List Nat} {M' : Mem} : ovS dst W (s.put dst d M') t = t.put dst d (ovr W M' t.mem) := by
  unfold ovS S.put
  congr 1
  funext j
  cases dst with
  | none => simp
  | some i =>
    simp only [Option.some.injEq, upd]
    by_cases h : i = j
    · subst h; simp
    · simp [h, Ne.symm h]

theorem ovS_self {s u : S} {dst : Option Tmp} {W : List Nat} (hm : ∀ id, id ∉ W → u.mem id = s.mem id) (he : ∀ j, dst ≠ some j → u.env j = s.env j) (hx : u.nx = s.nx) : ovS dst W u s = u := by
  obtain ⟨e, m, x⟩ := u
  simp only at hm he hx
  simp only [ovS, S.mk.injEq]
  refine ⟨?_, ?_, hx.symm⟩
  · funext j; split
    · rfl
    · rename_i hd; exact (he j hd).symm
  · funext id; simp only [ovr]; split
    · rfl
    · rename_i hd; exact (hm id hd).symm
theorem Alike.refl {o : Oper} {F : List Nat} {s : S} : Alike ops o F s s := ⟨fun _ _ => rfl, fun _ _ => rfl⟩
theorem opd_fun {s t : S} {o : Oper} (h : ∀ j, j ∈ o.looksAt ops → t.env j = s.env j) : ∀ x ∈ o.op.operands, opd t x = opd s x := opd_congr h
theorem foot_congr {np : Nat} {op : Op} {ρ ρ' : Operand → D} {M : Mem} {fid : Nat} (h : ∀ x ∈ op.operands, ρ' x = ρ x) (hv : vcall op = false) {N : Mem} {T W : List Nat} (hf : foot K np op ρ M fid = some (T, W)) : One (sem P K np op ρ' N fid) := by
  intro nx1 nx2 h1 h2
  have hb : ∀ x ∈ op.operands, ρ x = ρ' x := fun x hx => (h x hx).symm
  exact sem_one hv hf nx1 nx2 (sem_congr hb h1) (sem_congr hb h2)

theorem step_rs (hD : KDet K) {o : Oper} {fid : Nat} {s : S} {Q : S → Prop} {T W : List Nat} (hf : foot K np o.op (opd s) s.mem fid = some (T, W)) (h : stepOp P K n np ops o fid s Q) :
    ∃ O, (∀ t, O t → Q t) ∧ RsN P K n np ops o fid T W s O := by
  obtain ⟨hdst, h⟩ := h
  have envput : ∀ (d : D) (M' : Mem) (j : Tmp), o.dst ≠ some j → (s.put o.dst d M').env j = s.env j := by
    intro d M' j hj
    unfold S.put
    cases hdd : o.dst with
    | none => rfl
    | some i => exact upd_ne _ _ (fun he => hj (by rw [hdd, he]))
  have main : (sem P K np o.op (opd s) s.mem fid fun d M => Q (s.put o.dst d M)) → (∀ t : S, Alike ops o (T ++ W) s t → ∀ Q : S → Prop, (sem P K np o.op (opd t) t.mem fid fun d M => Q (t.put o.dst d M)) ↔ stepOp P K n np ops o fid t Q) → ∃ O, (∀ t, O t → Q t) ∧ RsN P K n np ops o fid T W s O := by
    intro h hg
    cases hv : vcall o.op with
    | false =>
      obtain ⟨d, M', h1, h2, h3⟩ := sem_loc hv hf h
      have again : ∀ t : S, Alike ops o (T ++ W) s t → ∀ Q' : S → Prop, Q' (ovS o.dst W (s.put o.dst d M') t) → stepOp P K n np ops o fid t Q' := by
        intro t ht Q' hQ
        refine (hg t ht Q').1 (sem_congr (opd_congr ht.2) (h3 t.mem ht.1 _ ?_))
        rw [put_ovS] at hQ; exact hQ
      refine ⟨(· = s.put o.dst d M'), by rintro _ rfl; exact h1, ⟨_, rfl⟩, by rintro _ rfl; exact h2, by rintro _ rfl; exact envput d M', by rintro _ rfl; rfl, fun t ht Q' hQ => again t ht Q' (hQ _ rfl), fun _ => ⟨_, rfl, fun _ h => h, fun t ht a ha => ?_⟩⟩
      have ha := (hg t ht (· = a)).2 ha
      have hb := (hg t ht (· = ovS o.dst W (s.put o.dst d M') t)).2 (again t ht _ rfl)
      obtain ⟨d, M', e1, e2⟩ := foot_congr (opd_congr ht.2) hv hf _ _ ha hb
      exact e1.symm.trans e2
    | true =>
      obtain ⟨O, ⟨d0, M0, hne⟩, h1, h2⟩ := sem_locN hD hf h
      refine ⟨fun u => ∃ d M', O d M' ∧ u = s.put o.dst d M', ?_, ⟨_, d0, M0, hne, rfl⟩, ?_, ?_, ?_, ?_, fun hc => by rw [hv] at hc; cases hc⟩
      · rintro _ ⟨d, M', hd, rfl⟩; exact (h1 d M' hd).1
      · rintro _ ⟨d, M', hd, rfl⟩ id hid; exact (h1 d M' hd).2 id hid
      · rintro _ ⟨d, M', hd, rfl⟩ j hj; exact envput d M' j hj
      · rintro _ ⟨d, M', hd, rfl⟩; rfl
      · intro t ht Q' hQ
        refine (hg t ht Q').1 (sem_congr (opd_congr ht.2) (h2 t.mem ht.1 _ fun d M' hd => ?_))
        have := hQ _ ⟨d, M', hd, rfl⟩
        rw [put_ovS] at this; exact this
  have skip : Q (s.put o.dst (.tup []) s.mem) → (∀ t : S, Alike ops o (T ++ W) s t → ∀ Q : S → Prop, Q (t.put o.dst (.tup []) t.mem) ↔ stepOp P K n np ops o fid t Q) → ∃ O, (∀ t, O t → Q t) ∧ RsN P K n np ops o fid T W s O := by
    intro h hg
    have hov : ∀ t : S, Alike ops o (T ++ W) s t → ovS o.dst W (s.put o.dst (.tup []) s.mem) t = t.put o.dst (.tup []) t.mem := by
      intro t ht
      rw [put_ovS]
      have : ovr W s.mem t.mem = t.mem := by
        funext id; simp only [ovr]; split
        · rename_i hi; exact (ht.1 id (List.mem_append_right _ hi)).symm
        · rfl
      rw [this]
    refine ⟨(· = s.put o.dst (.tup []) s.mem), by rintro _ rfl; exact h, ⟨_, rfl⟩, by rintro _ rfl id _; rfl, by rintro _ rfl; exact envput _ _, by rintro _ rfl; rfl, fun t ht Q' hQ => (hg t ht Q').1 (by rw [← hov t ht]; exact hQ _ rfl), fun _ => ⟨_, rfl, fun _ h => h, fun t ht a ha => ?_⟩⟩
    have := (hg t ht (· = a)).2 ha
    rw [hov t ht]; exact this.symm
  split at h
  · rename_i hg
    refine main h fun t ht Q' => ⟨fun h' => ⟨hdst, by rw [hg]; exact h'⟩, fun h' => ?_⟩
    have := h'.2; rw [hg] at this; exact this
  · rename_i j want hg
    split at h
    · rename_i t0 ht0
      have hl0 : ∀ t : S, (∀ j, j ∈ o.looksAt ops → t.env j = s.env j) → t.env t0 = s.env t0 := fun t hl => hl t0 (List.mem_append_right _ (by simp [hg, ht0]))
      split at h
      · rename_i b hb
        by_cases hbw : b = want
        · refine main (h.1 hbw) fun t ht Q' => ⟨fun h' => ⟨hdst, ?_⟩, fun h' => ?_⟩
          · rw [hg]; simp only [ht0, hl0 t ht.2, hb]
            exact ⟨fun _ => h', fun hh => by subst hbw; cases b <;> simp at hh⟩
          · have := h'.2; rw [hg] at this; simp only [ht0, hl0 t ht.2, hb] at this; exact this.1 hbw
        · have hbn : b = !want := by cases b <;> cases want <;> simp_all
          refine skip (h.2 hbn) fun t ht Q' => ⟨fun h' => ⟨hdst, ?_⟩, fun h' => ?_⟩
          · rw [hg]; simp only [ht0, hl0 t ht.2, hb]
            exact ⟨fun hh => absurd hh hbw, fun _ => h'⟩
          · have := h'.2; rw [hg] at this; simp only [ht0, hl0 t ht.2, hb] at this; exact this.2 hbn
      · rename_i hb
        refine skip h fun t ht Q' => ⟨fun h' => ⟨hdst, ?_⟩, fun h' => ?_⟩
        · rw [hg]; simp only [ht0, hl0 t ht.2, hb]; exact h'
        · have := h'.2; rw [hg] at this; simp only [ht0, hl0 t ht.2, hb] at this; exact this
      · exact h.elim
    · exact h.elim

def Dj (a b : List Nat) : Prop := ∀ x, x ∈ a → x ∉ b

theorem Alike.back {o : Oper} {F : List Nat} {s s1 : S} {dst : Option Tmp} {W : List Nat} (hm : ∀ id, id ∉ W → s1.mem id = s.mem id) (he : ∀ j, dst ≠ some j → s1.env j = s.env j) (hd : ∀ j, dst = some j → j ∉ o.looksAt ops) (hj : Dj W F) {t : S} (h : Alike ops o F s t) : Alike ops o F s1 t :=
  ⟨fun id hid => by rw [h.1 id hid, hm id fun hw => hj id hw hid], fun j hj' => by rw [h.2 j hj', he j fun hh => hd j hh hj']⟩
theorem Alike.fwd {o : Oper} {F : List Nat} {s s1 : S} {dst : Option Tmp} {W : List Nat} (hm : ∀ id, id ∉ W → s1.mem id = s.mem id) (he : ∀ j, dst ≠ some j → s1.env j = s.env j) (hd : ∀ j, dst = some j → j ∉ o.looksAt ops) (hj : Dj W F) {t : S} (h : Alike ops o F s1 t) : Alike ops o F s t :=
  ⟨fun id hid => by rw [h.1 id hid, hm id fun hw => hj id hw hid], fun j hj' => by rw [h.2 j hj', he j fun hh => hd j hh hj']⟩
theorem ovS_ovS {dst : Option Tmp} {W : List Nat} {u s t : S} : ovS dst W (ovS dst W u s) t = ovS dst W u t := by
  simp only [ovS]
  congr 1
  · funext j; split <;> rfl
  · funext id; simp only [ovr]; split <;> rfl
theorem ovS_mem {dst : Option Tmp} {W : List Nat} {u s : S} : ∀ id, id ∉ W → (ovS dst W u s).mem id = s.mem id := fun id h => by simp [ovS, ovr, h]
theorem ovS_env {dst : Option Tmp} {W : List Nat} {u s : S} : ∀ j, dst ≠ some j → (ovS dst W u s).env j = s.env j := fun j h => by simp [ovS, h]
theorem ovS_same {dst : Option Tmp} {W : List Nat} {u u' t : S} (hm : ∀ id, id ∈ W → u'.mem id = u.mem id) (he : ∀ j, dst = some j → u'.env j = u.env j) : ovS dst W u' t = ovS dst W u t := by
  simp only [ovS]
  congr 1
  · funext j; split
    · rename_i h; exact he j h
    · rfl
  · funext id; simp only [ovr]; split
    · rename_i h; exact hm id h
    · rfl

/-- Two steps that touch nothing in common change places, if one of them has one outcome only. -/
theorem RsN.swap {x y : Oper} {fx fy : Nat} {Tx Wx : List Nat} {s : S} {Ox : S → Prop} {C : List Nat → List Nat → Prop} {R : S → Prop} (hx : RsN P K n np ops x fx Tx Wx s Ox) (hap : x.apart ops y = true) (hnv : vcall x.op = false ∨ vcall y.op = false)
    (hy : ∀ s1, Ox s1 → ∃ Ty Wy Oy, RsN P K n np ops y fy Ty Wy s1 Oy ∧ C Ty Wy ∧ Dj Wx (Ty ++ Wy) ∧ Dj Wy (Tx ++ Wx) ∧ ∀ s2, Oy s2 → R s2) :
    ∃ Ty Wy Oy, RsN P K n np ops y fy Ty Wy s Oy ∧ C Ty Wy ∧ ∀ t, Oy t → ∃ Ox', RsN P K n np ops x fx Tx Wx t Ox' ∧ ∀ u, Ox' u → R u := by
  obtain ⟨a1, a2, a3⟩ := Oper.apart_spec hap
  have a1' : ∀ j, x.dst = some j → j ∉ y.looksAt ops := fun j h hh => a1 j h hh
  have a3' : ∀ j, y.dst = some j → j ∉ x.looksAt ops := fun j h hh => a3 j h hh
  cases hvx : vcall x.op with
  | false =>
    obtain ⟨s1, hs1, hu1, hq1⟩ := hx.det hvx
    obtain ⟨Ty, Wy, Oy, hy1, hC, d1, d2, hR⟩ := hy s1 hs1
    have m1 := hx.mem s1 hs1
    have e1 := hx.env s1 hs1
    have bk : ∀ {t : S}, Alike ops y (Ty ++ Wy) s t → Alike ops y (Ty ++ Wy) s1 t := fun h => h.back m1 e1 a1' d1
    refine ⟨Ty, Wy, fun t => ∃ s2, Oy s2 ∧ t = ovS y.dst Wy s2 s, ⟨?_, ?_, ?_, ?_, ?_, ?_⟩, hC, ?_⟩
    · obtain ⟨s2, h2⟩ := hy1.ne; exact ⟨_, s2, h2, rfl⟩
    · rintro _ ⟨s2, h2, rfl⟩; exact ovS_mem
    · rintro _ ⟨s2, h2, rfl⟩; exact ovS_env
    · rintro _ ⟨s2, h2, rfl⟩; rfl
    · intro t ht Q hQ
      exact hy1.again t (bk ht) Q fun u hu => by have := hQ _ ⟨u, hu, rfl⟩; rw [ovS_ovS] at this; exact this
    · intro hv
      obtain ⟨s2, h2, u2, q2⟩ := hy1.det hv
      refine ⟨_, ⟨s2, h2, rfl⟩, ?_, fun t ht a ha => ?_⟩
      · rintro _ ⟨s3, h3, rfl⟩; rw [u2 s3 h3]
      · rw [ovS_ovS]; exact q2 t (bk ht) a ha
    · rintro _ ⟨s2, h2, rfl⟩
      have m2 := hy1.mem s2 h2
      have e2 := hy1.env s2 h2
      have fw : ∀ {t : S}, Alike ops x (Tx ++ Wx) (ovS y.dst Wy s2 s) t → Alike ops x (Tx ++ Wx) s t := fun h => h.fwd ovS_mem ovS_env a3' d2
      have hov : ∀ t, ovS x.dst Wx s2 t = ovS x.dst Wx s1 t := fun t => ovS_same (fun id hid => m2 id fun h => d2 id h (List.mem_append_right _ hid)) (fun j hj => e2 j fun h => a2 j hj h)
      refine ⟨(· = s2), ⟨⟨_, rfl⟩, ?_, ?_, ?_, ?_, ?_⟩, by rintro _ rfl; exact hR _ h2⟩
      · rintro _ rfl id hid
        simp only [ovS, ovr]
        split
        · rfl
        · rename_i hw; rw [m2 id hw, m1 id hid]
      · rintro _ rfl j hj
        simp only [ovS]
        split
        · rfl
        · rename_i hd; rw [e2 j hd, e1 j hj]
      · rintro _ rfl; rw [hy1.nx _ h2, hx.nx _ hs1]; rfl
      · intro t ht Q hQ
        refine hx.again t (fw ht) Q fun u hu => ?_
        rw [hu1 u hu, ← hov]; exact hQ _ rfl
      · intro _
        exact ⟨s2, rfl, fun _ h => h, fun t ht a ha => by rw [hov]; exact hq1 t (fw ht) a ha⟩
  | true =>
    have hvy : vcall y.op = false := by rcases hnv with h | h
                                        · rw [hvx] at h; cases h
                                        · exact h
    obtain ⟨s0, hs0⟩ := hx.ne
    obtain ⟨Ty, Wy, Oy, hy0, hC, d1, d2, hR⟩ := hy s0 hs0
    obtain ⟨v0, hv0, hu0, hq0⟩ := hy0.det hvy
    have m0 := hx.mem s0 hs0
    have e0 := hx.env s0 hs0
    have bk : ∀ {t : S}, Alike ops y (Ty ++ Wy) s t → Alike ops y (Ty ++ Wy) s0 t := fun h => h.back m0 e0 a1' d1
    -- from each outcome the same
    have all : ∀ s1, Ox s1 → R (ovS y.dst Wy v0 s1) := by
      intro s1 hs1
      obtain ⟨Ty1, Wy1, Oy1, hy1, _, _, _, hR1⟩ := hy s1 hs1
      obtain ⟨v1, hv1, hu1, hq1⟩ := hy1.det hvy
      have al : Alike ops y (Ty ++ Wy) s0 s1 := ⟨fun id hid => by rw [hx.mem s1 hs1 id fun h => d1 id h hid, m0 id fun h => d1 id h hid], fun j hj => by rw [hx.env s1 hs1 j fun h => a1' j h hj, e0 j fun h => a1' j h hj]⟩
      have r := hy0.again s1 al (· = ovS y.dst Wy v0 s1) fun u hu => by rw [hu0 u hu]
      have := hq1 s1 .refl _ r
      rw [this, ovS_self (hy1.mem v1 hv1) (hy1.env v1 hv1) (hy1.nx v1 hv1)]
      exact hR1 v1 hv1
    refine ⟨Ty, Wy, (· = ovS y.dst Wy v0 s), ⟨⟨_, rfl⟩, by rintro _ rfl; exact ovS_mem, by rintro _ rfl; exact ovS_env, by rintro _ rfl; rfl, fun t ht Q hQ => ?_, fun _ => ⟨_, rfl, fun _ h => h, fun t ht a ha => ?_⟩⟩, hC, ?_⟩
    · exact hy0.again t (bk ht) Q fun u hu => by have := hQ _ rfl; rw [ovS_ovS] at this; rw [hu0 u hu]; exact this
    · rw [ovS_ovS]; exact hq0 t (bk ht) a ha
    · rintro _ rfl
      have fw : ∀ {t : S}, Alike ops x (Tx ++ Wx) (ovS y.dst Wy v0 s) t → Alike ops x (Tx ++ Wx) s t := fun h => h.fwd ovS_mem ovS_env a3' d2
      refine ⟨fun u => ∃ s1, Ox s1 ∧ u = ovS x.dst Wx s1 (ovS y.dst Wy v0 s), ⟨⟨_, s0, hs0, rfl⟩, ?_, ?_, ?_, ?_, ?_⟩, ?_⟩
      · rintro _ ⟨s1, h1, rfl⟩; exact ovS_mem
      · rintro _ ⟨s1, h1, rfl⟩; exact ovS_env
      · rintro _ ⟨s1, h1, rfl⟩; rfl
      · intro t ht Q hQ
        exact hx.again t (fw ht) Q fun u hu => by have := hQ _ ⟨u, hu, rfl⟩; rw [ovS_ovS] at this; exact this
      · intro hv; rw [hvx] at hv; cases hv
      · rintro _ ⟨s1, h1, rfl⟩
        have e : ovS x.dst Wx s1 (ovS y.dst Wy v0 s) = ovS y.dst Wy v0 s1 := by
          have m1 := hx.mem s1 h1
          have e1 := hx.env s1 h1
          have n1 := hx.nx s1 h1
          simp only [ovS, S.mk.injEq]
          refine ⟨?_, ?_, n1.symm⟩
          · funext j
            by_cases hjx : x.dst = some j
            · have : y.dst ≠ some j := fun h => a2 j hjx h
              simp [hjx, this]
            · by_cases hjy : y.dst = some j
              · simp [hjx, hjy]
              · simp [hjx, hjy, e1 j hjx]
          · funext id
            simp only [ovr]
            by_cases hx' : id ∈ Wx
            · have : id ∉ Wy := fun h => d2 id h (List.mem_append_right _ hx')
              simp [hx', this]
            · by_cases hy' : id ∈ Wy
              · simp [hx', hy']
              · simp [hx', hy', m1 id hx']
        rw [e]; exact all s1 h1

/-- Steps one after another. -/
structure Le3 where
  i : Nat
  T : List Nat
  W : List Nat

/-- Two steps that are free to change places. -/
def Free (ops : Array Oper) (x y : Le3) : Prop := (∀ ox oy, ops[x.i]? = some ox → ops[y.i]? = some oy → ox.apart ops oy = true ∧ (vcall ox.op = false ∨ vcall oy.op = false)) ∧ Dj x.W (y.T ++ y.W) ∧ Dj y.W (x.T ++ x.W)

/-- One operation waits for another one. -/
inductive Aft (ops : Array Oper) : Nat → Nat → Prop
  | edge (i : Nat) (o : Oper) (e : Edge) (ho : ops[i]? = some o) (he : e ∈ o.after) (hb : Region.binds .any e = true) : Aft ops i e.on
  | trans (i j k : Nat) (h1 : Aft ops i j) (h2 : Aft ops j k) : Aft ops i k

/-- What is listed has all listed for which it waits. -/
def Closed (ops : Array Oper) (listed : Array Bool) : Prop := ∀ i j, Aft ops i j → listed.getD i false = true → listed.getD j false = true

theorem getD_ft {listed : Array Bool} {i : Nat} (h : listed.getD i true = false) : listed.getD i false = false := by
  rcases Nat.lt_or_ge i listed.size with h' | h'
  · simpa [h'] using h
  · simp [Array.getElem?_eq_none h'] at h

theorem ready_aft {listed : Array Bool} (hc : Closed ops listed) {i j : Nat} (hr : i ∈ Region.ready .any ops listed) (h : Aft ops i j) : listed.getD j false = true := by
  induction h with
  | edge i o e ho he hb =>
    obtain ⟨_, o', ho', hall⟩ := mem_ready.1 hr
    rw [ho] at ho'; cases ho'
    exact hall e he hb
  | trans i j k h1 h2 ih1 ih2 => exact hc j k h2 (ih1 hr)

theorem RsN.self {o : Oper} {fid : Nat} {T W : List Nat} {s : S} {O : S → Prop} (h : RsN P K n np ops o fid T W s O) : stepOp P K n np ops o fid s O :=
  h.again s .refl _ fun u hu => by rw [ovS_self (h.mem u hu) (h.env u hu) (h.nx u hu)]; exact hu

/-- What was run is free, each from each, where no order is laid down. -/
def SP (ops : Array Oper) (acc : List Le3) : Prop := ∀ x, x ∈ acc → ∀ y, y ∈ acc → x.i < y.i → Aft ops y.i x.i ∨ Free ops x y
/-- Steps one after another, with all their outcomes. -/
def TT (P : Program) (K : Kt) (n np : Nat) (ops : Array Oper) (base : Nat) (Q : S → Prop) : List Nat → List Le3 → S → Prop
  | [], acc, s => SP ops acc ∧ Q s
  | i :: l, acc, s => ∃ o T W O, ops[i]? = some o ∧ RsN P K n np ops o (base + 4 * i) T W s O ∧ ∀ t, O t → TT P K n np ops base Q l (⟨i, T, W⟩ :: acc) t
theorem TT.sp {base : Nat} {Q : S → Prop} : ∀ {l : List Nat} {acc : List Le3} {s : S}, TT P K n np ops base Q l acc s → SP ops acc
  | [], _, _, h => h.1
  | i :: l, acc, s, h => by
    obtain ⟨o, T, W, O, _, h2, h3⟩ := h
    obtain ⟨t, ht⟩ := h2.ne
    have := TT.sp (h3 t ht)
    exact fun x hx y hy => this x (List.mem_cons_of_mem _ hx) y (List.mem_cons_of_mem _ hy)
theorem TT.sub {base : Nat} {Q : S → Prop} : ∀ {l : List Nat} {acc acc' : List Le3} {s : S}, (∀ x, x ∈ acc' → x ∈ acc) → TT P K n np ops base Q l acc s → TT P K n np ops base Q l acc' s
  | [], _, _, _, hs, h => ⟨fun x hx y hy => h.1 x (hs x hx) y (hs y hy), h.2⟩
  | i :: l, acc, acc', s, hs, h => by
    obtain ⟨o, T, W, O, h1, h2, h3⟩ := h
    refine ⟨o, T, W, O, h1, h2, fun t ht => (h3 t ht).sub fun x hx => ?_⟩
    rcases List.mem_cons.1 hx with rfl | hx
    · exact List.mem_cons_self
    · exact List.mem_cons_of_mem _ (hs x hx)
theorem TT.front {base : Nat} {Q : S → Prop} {i : Nat} {l2 : List Nat} : ∀ {l1 : List Nat} {acc : List Le3} {s : S}, (∀ z, z ∈ l1 → z < i ∧ ¬ Aft ops i z) → TT P K n np ops base Q (l1 ++ i :: l2) acc s →
    ∃ o T W O, ops[i]? = some o ∧ RsN P K n np ops o (base + 4 * i) T W s O ∧ (∀ x, x ∈ acc → x.i < i → Aft ops i x.i ∨ Free ops x ⟨i, T, W⟩) ∧ ∀ t, O t → TT P K n np ops base Q (l1 ++ l2) acc t
  | [], acc, s, _, h => by
    obtain ⟨o, T, W, O, h1, h2, h3⟩ := h
    refine ⟨o, T, W, O, h1, h2, fun x hx hlt => ?_, fun t ht => (h3 t ht).sub fun x hx => List.mem_cons_of_mem _ hx⟩
    obtain ⟨t, ht⟩ := h2.ne
    exact (h3 t ht).sp x (List.mem_cons_of_mem _ hx) _ List.mem_cons_self hlt
  | z :: l1, acc, s, hz, h => by
    obtain ⟨oz, Tz, Wz, Oz, h1, h2, h3⟩ := h
    obtain ⟨hzi, hza⟩ := hz z List.mem_cons_self
    have ih := fun s1 hs1 => TT.front (fun w hw => hz w (List.mem_cons_of_mem _ hw)) (h3 s1 hs1)
    obtain ⟨s0, hs0⟩ := h2.ne
    obtain ⟨o, _, _, _, hi, _, hc0, _⟩ := ih s0 hs0
    have fz : ∀ {T W : List Nat}, (∀ x, x ∈ (⟨z, Tz, Wz⟩ : Le3) :: acc → x.i < i → Aft ops i x.i ∨ Free ops x ⟨i, T, W⟩) → Free ops ⟨z, Tz, Wz⟩ ⟨i, T, W⟩ := fun hc => by
      rcases hc _ List.mem_cons_self hzi with h | h
      · exact absurd h hza
      · exact h
    obtain ⟨Ty, Wy, Oy, r1, r2, r3⟩ := h2.swap (y := o) (fy := base + 4 * i) (C := fun T W => ∀ x, x ∈ acc → x.i < i → Aft ops i x.i ∨ Free ops x ⟨i, T, W⟩) (R := fun u => TT P K n np ops base Q (l1 ++ l2) (⟨z, Tz, Wz⟩ :: acc) u)
      ((fz hc0).1 oz o h1 hi).1 ((fz hc0).1 oz o h1 hi).2 (fun s1 hs1 => by
        obtain ⟨o', T, W, O, q1, q2, q3, q4⟩ := ih s1 hs1
        rw [hi] at q1; cases q1
        exact ⟨T, W, O, q2, fun x hx => q3 x (List.mem_cons_of_mem _ hx), (fz q3).2.1, (fz q3).2.2, q4⟩)
    refine ⟨o, Ty, Wy, Oy, hi, r1, r2, fun t ht => ?_⟩
    obtain ⟨Ox', k1, k2⟩ := r3 t ht
    exact ⟨oz, Tz, Wz, Ox', h1, k1, k2⟩

theorem tree_any (hK : KOk P K) {F : Fr} {base : Nat} {Q : S → Prop} {QQ : Exit → Act → World → Prop} (hacy : ∀ (i : Nat) (o : Oper) (e : Edge), ops[i]? = some o → e ∈ o.after → Region.binds .any e = true → e.on < i) :
    ∀ (fuel : Nat) (listed : Array Bool) (l : List Nat) (acc : List Le3) (s : S) (a : Act) (w : World), F.n = n → F.np = np →
      (∀ j, j ∈ l ↔ (j < ops.size ∧ listed.getD j true = false)) → listed.size = ops.size → l.length ≤ fuel → Closed ops listed →
      l.Pairwise (fun x y => x < y) → TT P K n np ops base Q l acc s → Inv F s a w → (∀ s' a' w', Q s' → Inv F s' a' w' → QQ .normal a' w') →
      wpAny P .any ops QQ fuel listed a w := by
  intro fuel
  induction fuel with
  | zero =>
    intro listed l acc s a w hn hnp hl hsz hlen hc hp ht hI hk
    have : l = [] := List.eq_nil_of_length_eq_zero (by omega)
    subst this
    refine ⟨?_, ?_⟩
    · rw [List.eq_nil_iff_forall_not_mem]
      intro i hi
      obtain ⟨h1, o, h2, _⟩ := mem_ready.1 hi
      have := (hl i).2 ⟨(Array.getElem?_eq_some_iff.1 h2).1, h1⟩
      cases this
    · exact hk s a w ht.2 hI
  | succ fuel ih =>
    intro listed l acc s a w hn hnp hl hsz hlen hc hp ht hI hk
    refine ⟨fun hr => ?_, fun i hi => ?_⟩
    · have hnil : l = [] := by
        refine List.eq_nil_iff_forall_not_mem.2 fun x hx => ?_
        have key : ∀ m, m ∈ l → False := by
          intro m
          induction m using Nat.strongRecOn with
          | _ m ihm =>
            intro hm
            obtain ⟨h1, h2⟩ := (hl m).1 hm
            obtain ⟨o, ho⟩ : ∃ o, ops[m]? = some o := ⟨_, Array.getElem?_eq_getElem h1⟩
            by_cases hall : ∀ e ∈ o.after, Region.binds .any e = true → listed.getD e.on false = true
            · have : m ∈ Region.ready .any ops listed := mem_ready.2 ⟨h2, o, ho, hall⟩
              rw [hr] at this; cases this
            · simp only [Classical.not_forall] at hall
              obtain ⟨e, he, hb, hne⟩ := hall
              have hlt := hacy _ o e ho he hb
              have hun : listed.getD e.on true = false := by
                have hi' : e.on < listed.size := by omega
                simp only [Array.getD_eq_getD_getElem?, Array.getElem?_eq_getElem hi', Option.getD_some] at hne ⊢
                simpa using hne
              exact ihm e.on (by omega) ((hl e.on).2 ⟨by omega, hun⟩)
        exact key x hx
      subst hnil
      exact hk s a w ht.2 hI
    · obtain ⟨h1, o, h2, hall⟩ := mem_ready.1 hi
      have hlt := (Array.getElem?_eq_some_iff.1 h2).1
      obtain ⟨l1, l2, rfl⟩ := List.append_of_mem ((hl i).2 ⟨hlt, h1⟩)
      have hfree : ∀ z, z ∈ l1 → z < i ∧ ¬ Aft ops i z := by
        intro z hz
        refine ⟨(List.pairwise_append.1 hp).2.2 z hz i List.mem_cons_self, fun h => ?_⟩
        have h3 := ready_aft hc hi h
        obtain ⟨_, h4⟩ := (hl z).1 (List.mem_append_left _ hz)
        rw [getD_ft h4] at h3; cases h3
      obtain ⟨o', T, W, O, k1, k2, _, k3⟩ := TT.front hfree ht
      rw [h2] at k1; cases k1
      have hst := k2.self
      subst hn; subst hnp
      have := step_ok hK hI hst (K' := wpAny P .any ops QQ fuel (listed.setIfInBounds i true)) (QQ := QQ) (fun u a' w' hI' hu => ?_)
      · unfold wpOp
        simp only [h2]
        split
        · rename_i hw; rw [if_pos hw] at this; exact .inl this
        · rename_i hw; rw [if_neg hw] at this; exact this
      · refine ih (listed.setIfInBounds i true) (l1 ++ l2) acc u a' w' rfl rfl (fun j => ?_) (by simpa using hsz) (by simp at hlen ⊢; omega) ?_ ?_ (k3 u hu) hI' hk
        · have hne : ∀ z, z ∈ l1 ++ l2 → z ≠ i := by
            intro z hz
            rw [List.pairwise_append, List.pairwise_cons] at hp
            rcases List.mem_append.1 hz with h | h
            · have := hp.2.2 z h i List.mem_cons_self; omega
            · have := hp.2.1.1 z h; omega
          constructor
          · intro hz
            obtain ⟨b1, b2⟩ := (hl j).1 (by simp at hz ⊢; rcases hz with h | h <;> simp [h])
            exact ⟨b1, by rw [getD_set_ne true (fun h => hne j hz h.symm)]; exact b2⟩
          · rintro ⟨b1, b2⟩
            have hji : i ≠ j := by
              rintro rfl
              simp [hsz, hlt] at b2
            rw [getD_set_ne true hji] at b2
            have hz := (hl j).2 ⟨b1, b2⟩
            simp only [List.mem_append, List.mem_cons] at hz ⊢
            rcases hz with h | h | h
            · exact .inl h
            · exact absurd h.symm hji
            · exact .inr h
        · intro p q hpq hp'
          refine getD_set_true ?_
          by_cases hpi : i = p
          · subst hpi; exact ready_aft hc hi hpq
          · rw [getD_set_ne false hpi] at hp'
            exact hc p q hpq hp'
        · exact hp.sublist (by simp)

/-! ## The check -/
def dj (a b : List Nat) : Bool := a.all fun x => !b.contains x
theorem dj_spec {a b : List Nat} (h : dj a b = true) : Dj a b := by
  intro x hx hb
  simp only [dj, List.all_eq_true] at h
  have := h x hx
  simp [hb] at this

def tbGo : List Oper → List (List Nat) → List (List Nat)
  | [], acc => acc
  | o :: l, acc => tbGo l (acc ++ [((o.after.toList.filter fun e => Region.binds .any e).flatMap fun e => e.on :: acc.getD e.on []).eraseDups])
def tbOf (ops : Array Oper) : List (List Nat) := tbGo ops.toList []
def chkTb (ops : Array Oper) (tb : List (List Nat)) : Bool := (List.range ops.size).all fun i => match ops[i]? with
  | some o => (o.after.all fun e => !Region.binds .any e || decide (e.on < i)) && (tb.getD i []).all fun j => o.after.any fun e => Region.binds .any e && (e.on == j || (tb.getD e.on []).contains j)
  | none => true
def frB (ops : Array Oper) (y x : Le3) : Bool := (match ops[y.i]?, ops[x.i]? with | some oy, some ox => oy.apart ops ox && !(vcall oy.op && vcall ox.op) | _, _ => true) && dj y.W (x.T ++ x.W) && dj x.W (y.T ++ y.W)
def chkP (ops : Array Oper) (tb : List (List Nat)) : List Le3 → Bool
  | [] => true
  | x :: r => (r.all fun y => (tb.getD x.i []).contains y.i || frB ops y x) && chkP ops tb r
def chkB (ops : Array Oper) (tb : List (List Nat)) (log : List Le3) : Bool := chkTb ops tb && chkP ops tb log
def chk (ops : Array Oper) (log : List Le3) : Bool := chkB ops (tbOf ops) log

theorem chkTb_acy {tb : List (List Nat)} (h : chkTb ops tb = true) : ∀ (i : Nat) (o : Oper) (e : Edge), ops[i]? = some o → e ∈ o.after → Region.binds .any e = true → e.on < i := by
  intro i o e ho he hb
  simp only [chkTb, List.all_eq_true, List.mem_range] at h
  have := h i (Array.getElem?_eq_some_iff.1 ho).1
  simp only [ho, Bool.and_eq_true] at this
  have := (Array.all_eq_true_iff_forall_mem.1 this.1) e he
  simpa [hb] using this
theorem chkTb_aft {tb : List (List Nat)} (h : chkTb ops tb = true) : ∀ (i : Nat) (j : Nat), i < ops.size → j ∈ tb.getD i [] → Aft ops i j := by
  intro i
  induction i using Nat.strongRecOn with
  | _ i ih =>
    intro j hi hj
    have h0 := h
    simp only [chkTb, List.all_eq_true, List.mem_range] at h
    have := h i hi
    obtain ⟨o, ho⟩ : ∃ o, ops[i]? = some o := ⟨_, Array.getElem?_eq_getElem hi⟩
    simp only [ho, Bool.and_eq_true, List.all_eq_true] at this
    have h2 := this.2 j hj
    obtain ⟨e, he, hb⟩ := Array.any_eq_true'.1 h2
    simp only [Bool.and_eq_true, Bool.or_eq_true, beq_iff_eq, List.contains_iff_mem] at hb
    obtain ⟨hb1, hb2⟩ := hb
    have hlt := chkTb_acy h0 i o e ho he hb1
    rcases hb2 with rfl | hb2
    · exact .edge i o e ho he hb1
    · exact .trans i e.on j (.edge i o e ho he hb1) (ih e.on hlt j (by omega) hb2)

theorem chkP_sp {tb : List (List Nat)} (h : chkTb ops tb = true) : ∀ (l : List Le3), (∀ x, x ∈ l → x.i < ops.size) → l.Pairwise (fun x y => y.i < x.i) → chkP ops tb l = true → SP ops l
  | [], _, _, _ => fun x hx => by cases hx
  | x :: r, hl, hs, hc => by
    simp only [chkP, Bool.and_eq_true, List.all_eq_true, Bool.or_eq_true, List.contains_iff_mem] at hc
    rw [List.pairwise_cons] at hs
    have ih := chkP_sp h r (fun z hz => hl z (List.mem_cons_of_mem _ hz)) hs.2 hc.2
    intro a ha b hb hab
    rcases List.mem_cons.1 ha with ha' | ha'
    · subst ha'
      rcases List.mem_cons.1 hb with hb' | hb'
      · subst hb'; omega
      · have := hs.1 b hb'; omega
    · rcases List.mem_cons.1 hb with hb' | hb'
      · subst hb'
        rcases hc.1 a ha' with hh | hh
        · exact .inl (chkTb_aft h b.i a.i (hl b List.mem_cons_self) hh)
        · right
          simp only [frB, Bool.and_eq_true] at hh
          refine ⟨fun oa ob hoa hob => ?_, dj_spec hh.1.2, dj_spec hh.2⟩
          have := hh.1.1
          simp only [hoa, hob, Bool.and_eq_true] at this
          refine ⟨this.1, ?_⟩
          have h2 := this.2
          cases h3 : vcall oa.op with
          | false => exact .inl rfl
          | true => rw [h3] at h2; right; simpa using h2
      · exact ih a ha' b hb' hab

/-- A drawn region, in the order of the text, with a check of what may change places. -/
def dRun (P : Program) (K : Kt) (n np : Nat) (ops : Array Oper) : List Oper → Nat → Nat → List Le3 → S → (S → Prop) → Prop
  | [], _, _, log, s, Q => chk ops log = true ∧ Q s
  | o :: l, i, fid, log, s, Q => match foot K np o.op (opd s) s.mem fid with
    | some (T, W) => stepOp P K n np ops o fid s fun s' => dRun P K n np ops l (i + 1) (fid + 4) (⟨i, T, W⟩ :: log) s' Q
    | none => False

theorem dRun_tree (hD : KDet K) {base : Nat} : ∀ (l : List Oper) (i : Nat) (log : List Le3) (s : S) (Q : S → Prop), ops.toList.drop i = l → (∀ x, x ∈ log → x.i < i ∧ x.i < ops.size) → log.Pairwise (fun x y => y.i < x.i) → dRun P K n np ops l i (base + 4 * i) log s Q →
    TT P K n np ops base Q (List.range' i l.length) log s
  | [], i, log, s, Q, _, hb, hp, h => by
    have hc := h.1
    simp only [chk, chkB, Bool.and_eq_true] at hc
    exact ⟨chkP_sp hc.1 log (fun x hx => (hb x hx).2) hp hc.2, h.2⟩
  | o :: l, i, log, s, Q, hd, hb, hp, h => by
    simp only [dRun] at h
    split at h
    · rename_i T W hf
      obtain ⟨O, h1, h2⟩ := step_rs hD hf h
      have ho : ops[i]? = some o := by
        have := congrArg (·[0]?) hd
        simpa using this
      have hlt : i < ops.size := (Array.getElem?_eq_some_iff.1 ho).1
      have hd' : ops.toList.drop (i + 1) = l := by
        rw [← List.drop_drop, hd]; rfl
      have hbb : base + 4 * (i + 1) = base + 4 * i + 4 := by omega
      rw [List.length_cons, List.range'_succ]
      refine ⟨o, T, W, O, ho, h2, fun t ht => dRun_tree hD l (i + 1) _ t Q hd' (fun x hx => ?_) ?_ (by rw [hbb]; exact h1 t ht)⟩
      · rcases List.mem_cons.1 hx with rfl | hx
        · exact ⟨Nat.lt_succ_self _, hlt⟩
        · have := hb x hx; exact ⟨by omega, this.2⟩
      · rw [List.pairwise_cons]
        exact ⟨fun y hy => (hb y hy).1, hp⟩
    · exact h.elim
theorem TT.acy {base : Nat} {Q : S → Prop} (hD : KDet K) : ∀ (l : List Oper) (i : Nat) (log : List Le3) (s : S) (fid : Nat), dRun P K n np ops l i fid log s Q → ∃ tb, chkTb ops tb = true
  | [], i, log, s, fid, h => by
    have hc := h.1
    simp only [chk, chkB, Bool.and_eq_true] at hc
    exact ⟨_, hc.1⟩
  | o :: l, i, log, s, fid, h => by
    simp only [dRun] at h
    split at h
    · rename_i T W hf
      obtain ⟨O, h1, h2⟩ := step_rs hD hf h
      obtain ⟨t, ht⟩ := h2.ne
      exact TT.acy (base := base) hD l (i + 1) _ t (fid + 4) (h1 t ht)
    · exact h.elim

theorem aw_drawn {Q : Exit → S → Prop} {s : S} (hm : P.follows .mixedOrders = true) (hK : KOk P K) (hD : KDet K) {id : Nat} {l : List Oper}
    (h : dRun P K n np l.toArray l 0 s.nx [] s fun s' => Q .normal { s' with nx := s.nx + 4 * l.length }) : AW P n np (.region id l.toArray true) Q s := by
  intro F a w hn hnp hI
  refine wp_region_any hm ?_
  obtain ⟨tb, htb⟩ := TT.acy (base := 0) hD l 0 [] s s.nx h
  have ht := dRun_tree (ops := l.toArray) (base := s.nx) hD l 0 [] s _ (by simp) (fun x hx => by cases hx) .nil h
  refine tree_any hK (chkTb_acy htb) _ _ (List.range' 0 l.length) [] s a _ hn hnp (fun j => ?_) (by simp) ?_ ?_ ?_ ht ?_ ?_
  · simp only [List.mem_range'_1, Nat.zero_le, Nat.zero_add, true_and, List.size_toArray]
    constructor
    · intro hj; exact ⟨hj, by simp [hj]⟩
    · intro hj; exact hj.1
  · simp
  · intro p q _ hp
    exfalso
    by_cases hlt : p < l.length
    · simp [hlt] at hp
    · simp [hlt] at hp
  · exact List.pairwise_lt_range'
  · obtain ⟨d1, d2, g, hM, henv⟩ := hI
    obtain ⟨k1, k2⟩ := hM.same (w' := { w with drawn := w.drawn + 1 }) rfl rfl rfl rfl
    exact ⟨d1, d2, g, k1, fun t => (henv t).mono k2⟩
  · intro s' a' w' hQ hI'
    exact ⟨{ s' with nx := s.nx + 4 * l.length }, hI', hQ⟩

end steps
end Go.Abs

/- The abstract machine, twentieth part: regions as the rules see them, one operation after another. -/
set_option linter.unusedVariables false
set_option linter.unusedSimpArgs false
namespace Go.Abs
open Go

/-- Two ways, of which one is not looked into before the test is known. -/
def gate (b want : Bool) (A B : Prop) : Prop := (b = want → A) ∧ (b = !want → B)
@[congr] theorem gate_congr {b b' want : Bool} {A B : Prop} (h : b = b') : gate b want A B = gate b' want A B := by rw [h]
theorem gate_tt {A B : Prop} : gate true true A B = A := by simp [gate]
theorem gate_tf {A B : Prop} : gate true false A B = B := by simp [gate]
theorem gate_ft {A B : Prop} : gate false true A B = B := by simp [gate]
theorem gate_ff {A B : Prop} : gate false false A B = A := by simp [gate]
theorem gate_intro {b want : Bool} {A B : Prop} (h1 : b = want → A) (h2 : b = !want → B) : gate b want A B := ⟨h1, h2⟩

/-- What follows is not looked into. -/
def Next (A : Prop) : Prop := A
@[congr] theorem next_congr {A : Prop} : Next A = Next A := rfl

def at_ : List (Option Tmp) → Nat → Option Tmp
  | [], _ => none
  | x :: l, i => if i = 0 then x else at_ l (i - 1)
theorem at_get (ops : List Oper) : ∀ j, at_ (ops.map Oper.dst) j = (ops[j]?).bind (·.dst) := by
  induction ops with
  | nil => intro j; simp [at_]
  | cons o l ih =>
    intro j
    cases j with
    | zero => simp [at_]
    | succ j => simp [at_, ih]

def dstOk (n : Nat) : Option Tmp → Prop
  | some t => t < n
  | none => True

/-- One operation; nx: what follows. -/
def stepK (P : Program) (K : Kt) (n np : Nat) (ds : List (Option Tmp)) (o : Oper) (fid : Nat) (s : S) (nx : D → Mem → Prop) : Prop :=
  dstOk n o.dst ∧ match o.guard with
  | none => sem P K np o.op (opd s) s.mem fid nx
  | some (j, want) => match at_ ds j with
    | some t => match s.env t with
      | .v (.bool b) => gate b want (sem P K np o.op (opd s) s.mem fid nx) (nx (.tup []) s.mem)
      | .tup [] => nx (.tup []) s.mem
      | _ => False
    | none => False

theorem stepK_eq {P : Program} {K : Kt} {n np : Nat} {ops : List Oper} {o : Oper} {fid : Nat} {s : S} {Q : S → Prop} : stepK P K n np (ops.map Oper.dst) o fid s (fun d M => Q (s.put o.dst d M)) = stepOp P K n np ops.toArray o fid s Q := by
  obtain ⟨dst, op, ty, pos, aft, g⟩ := o
  have h1 : dstOk n dst = (match dst with | some t => t < n | none => True) := by cases dst <;> rfl
  unfold stepK stepOp
  simp only
  rw [h1]
  cases g with
  | none => rfl
  | some g =>
    obtain ⟨j, want⟩ := g
    simp only [List.getElem?_toArray, at_get]
    rfl

def runL (P : Program) (K : Kt) (n np : Nat) (ds : List (Option Tmp)) : List Oper → Nat → S → (S → Prop) → Prop
  | [], _, s, Q => Q s
  | o :: l, fid, s, Q => stepK P K n np ds o fid s fun d M => runL P K n np ds l (fid + 4) (s.put o.dst d M) Q
def kont (P : Program) (K : Kt) (n np : Nat) (ds : List (Option Tmp)) (l : List Oper) (fid : Nat) (s : S) (dst : Option Tmp) (Q : S → Prop) : D → Mem → Prop := fun d M => runL P K n np ds l fid (s.put dst d M) Q
theorem kont_app (P : Program) (K : Kt) (n np : Nat) (ds : List (Option Tmp)) (l : List Oper) (fid : Nat) (s : S) (dst : Option Tmp) (Q : S → Prop) (d : D) (M : Mem) : kont P K n np ds l fid s dst Q d M = runL P K n np ds l fid (s.put dst d M) Q := rfl
theorem runL_nil (P : Program) (K : Kt) (n np : Nat) (ds : List (Option Tmp)) (fid : Nat) (s : S) (Q : S → Prop) : runL P K n np ds [] fid s Q = Q s := rfl
theorem runL_cons (P : Program) (K : Kt) (n np : Nat) (ds : List (Option Tmp)) (o : Oper) (l : List Oper) (fid : Nat) (s : S) (Q : S → Prop) : runL P K n np ds (o :: l) fid s Q = stepK P K n np ds o fid s (kont P K n np ds l (fid + 4) s o.dst Q) := rfl

theorem runL_eq {P : Program} {K : Kt} {n np : Nat} {ops : List Oper} : ∀ (l : List Oper) (fid : Nat) (s : S) (Q : S → Prop), runL P K n np (ops.map Oper.dst) l fid s Q = runOps P K n np ops.toArray l fid s Q
  | [], fid, s, Q => rfl
  | o :: l, fid, s, Q => by
    unfold runL runOps
    rw [← stepK_eq]
    congr 1
    funext d M
    exact runL_eq l (fid + 4) _ Q

/-- .. with a check of what may change places. -/
def dRunL (P : Program) (K : Kt) (n np : Nat) (ops : Array Oper) (ds : List (Option Tmp)) : List Oper → Nat → Nat → List Le3 → S → (S → Prop) → Prop
  | [], _, _, log, s, Q => chk ops log = true ∧ Q s
  | o :: l, i, fid, log, s, Q => match foot K np o.op (opd s) s.mem fid with
    | some (T, W) => stepK P K n np ds o fid s fun d M => dRunL P K n np ops ds l (i + 1) (fid + 4) (⟨i, T, W⟩ :: log) (s.put o.dst d M) Q
    | none => False
def dKont (P : Program) (K : Kt) (n np : Nat) (ops : Array Oper) (ds : List (Option Tmp)) (l : List Oper) (i fid : Nat) (log : List Le3) (s : S) (dst : Option Tmp) (Q : S → Prop) : D → Mem → Prop := fun d M => dRunL P K n np ops ds l i fid log (s.put dst d M) Q
/-- The footprint is known ahead of the step. -/
def footK (P : Program) (K : Kt) (n np : Nat) (ops : Array Oper) (ds : List (Option Tmp)) (o : Oper) (l : List Oper) (i fid : Nat) (log : List Le3) (s : S) (Q : S → Prop) : Option (List Nat × List Nat) → Prop
  | some (T, W) => stepK P K n np ds o fid s (dKont P K n np ops ds l (i + 1) (fid + 4) (⟨i, T, W⟩ :: log) s o.dst Q)
  | none => False
theorem dKont_app (P : Program) (K : Kt) (n np : Nat) (ops : Array Oper) (ds : List (Option Tmp)) (l : List Oper) (i fid : Nat) (log : List Le3) (s : S) (dst : Option Tmp) (Q : S → Prop) (d : D) (M : Mem) : dKont P K n np ops ds l i fid log s dst Q d M = dRunL P K n np ops ds l i fid log (s.put dst d M) Q := rfl
theorem dRunL_nil (P : Program) (K : Kt) (n np : Nat) (ops : Array Oper) (ds : List (Option Tmp)) (i fid : Nat) (log : List Le3) (s : S) (Q : S → Prop) : dRunL P K n np ops ds [] i fid log s Q = (chk ops log = true ∧ Q s) := rfl
theorem dRunL_cons (P : Program) (K : Kt) (n np : Nat) (ops : Array Oper) (ds : List (Option Tmp)) (o : Oper) (l : List Oper) (i fid : Nat) (log : List Le3) (s : S) (Q : S → Prop) : dRunL P K n np ops ds (o :: l) i fid log s Q = footK P K n np ops ds o l i fid log s Q (foot K np o.op (opd s) s.mem fid) := by
  simp only [dRunL]
  cases foot K np o.op (opd s) s.mem fid <;> rfl

theorem dRunL_eq {P : Program} {K : Kt} {n np : Nat} {ops : List Oper} : ∀ (l : List Oper) (i fid : Nat) (log : List Le3) (s : S) (Q : S → Prop), dRunL P K n np ops.toArray (ops.map Oper.dst) l i fid log s Q = dRun P K n np ops.toArray l i fid log s Q
  | [], i, fid, log, s, Q => rfl
  | o :: l, i, fid, log, s, Q => by
    simp only [dRunL, dRun]
    cases hf : foot K np o.op (opd s) s.mem fid with
    | none => rfl
    | some TW =>
      simp only
      rw [← stepK_eq]
      congr 1
      funext d M
      exact dRunL_eq l (i + 1) (fid + 4) _ _ Q

section rules
variable {P : Program} {n np : Nat} {Q : Exit → S → Prop}

/-- The end of a region. -/
def endS (s : S) (nx : Nat) : S := { s with nx := nx }
/-- What a region hands on. -/
def endQ (Q : Exit → S → Prop) (nx : Nat) : S → Prop := fun s => Q .normal (endS s nx)
theorem endQ_app (Q : Exit → S → Prop) (nx : Nat) (el : List (Nat × D)) (ml : List (Nat × Ent)) (x : Nat) : endQ Q nx ⟨envOf el, memOf ml, x⟩ = Q .normal ⟨envOf el, memOf ml, nx⟩ := rfl

theorem aw_reg {K : Kt} (hK : KOk P K) {id : Nat} {ops : List Oper} {el : List (Nat × D)} {ml : List (Nat × Ent)} {x : Nat}
    (h : runL P K n np (ops.map Oper.dst) ops x ⟨envOf el, memOf ml, x⟩ (endQ Q (x + 4 * ops.length))) : AW P n np (.region id ops.toArray false) Q ⟨envOf el, memOf ml, x⟩ :=
  aw_region hK (by rw [← runL_eq]; exact h)

theorem aw_drw {K : Kt} (hm : P.follows .mixedOrders = true) (hK : KOk P K) (hD : KDet K) {id : Nat} {ops : List Oper} {el : List (Nat × D)} {ml : List (Nat × Ent)} {x : Nat}
    (h : dRunL P K n np ops.toArray (ops.map Oper.dst) ops 0 x [] ⟨envOf el, memOf ml, x⟩ (endQ Q (x + 4 * ops.length))) : AW P n np (.region id ops.toArray true) Q ⟨envOf el, memOf ml, x⟩ :=
  aw_drawn hm hK hD (by rw [← dRunL_eq]; exact h)

def condP : D → Prop → Prop → Prop
  | .v (.bool b), A, B => gate b true A B
  | _, _, _ => False
theorem aw_if {s : S} {c : Operand} {x y : Code} (h : condP (opd s c) (AW P n np x Q s) (AW P n np y Q s)) : AW P n np (.cond c x y) Q s := by
  unfold condP at h
  split at h
  · rename_i b hb
    exact aw_cond hb (fun hh => h.1 hh) (fun hh => h.2 hh)
  · exact h.elim
@[congr] theorem condP_congr {d d' : D} {A B : Prop} (h : d = d') : condP d A B = condP d' A B := by rw [h]
@[congr] theorem thenQ_congr {R : S → Prop} {Q : Exit → S → Prop} {e : Exit} {s s' : S} (h : s = s') : thenQ R Q e s = thenQ R Q e s' := by rw [h]
@[congr] theorem blockQ_congr {id : Nat} {Q : Exit → S → Prop} {e : Exit} {s s' : S} (h : s = s') : blockQ id Q e s = blockQ id Q e s' := by rw [h]
@[congr] theorem AW_congr {c : Code} {s s' : S} (h : s = s') : AW P n np c Q s = AW P n np c Q s' := by rw [h]
@[congr] theorem runL_congr {K : Kt} {ds : List (Option Tmp)} {l : List Oper} {f f' : Nat} {s s' : S} {R : S → Prop} (h : s = s') (hf : f = f') : runL P K n np ds l f s R = runL P K n np ds l f' s' R := by rw [h, hf]
@[congr] theorem kont_congr {K : Kt} {ds : List (Option Tmp)} {l : List Oper} {f f' : Nat} {s s' : S} {dst : Option Tmp} {R : S → Prop} {d d' : D} {M M' : Mem} (h : s = s') (hf : f = f') (hd : d = d') (hM : M = M') : kont P K n np ds l f s dst R d M = kont P K n np ds l f' s' dst R d' M' := by rw [h, hf, hd, hM]
@[congr] theorem dRunL_congr {K : Kt} {ops : Array Oper} {ds : List (Option Tmp)} {l : List Oper} {i i' f f' : Nat} {g g' : List Le3} {s s' : S} {R : S → Prop} (h : s = s') (hi : i = i') (hf : f = f') (hg : g = g') : dRunL P K n np ops ds l i f g s R = dRunL P K n np ops ds l i' f' g' s' R := by rw [h, hi, hf, hg]
@[congr] theorem dKont_congr {K : Kt} {ops : Array Oper} {ds : List (Option Tmp)} {l : List Oper} {i i' f f' : Nat} {g g' : List Le3} {s s' : S} {dst : Option Tmp} {R : S → Prop} {d d' : D} {M M' : Mem} (h : s = s') (hi : i = i') (hf : f = f') (hg : g = g') (hd : d = d') (hM : M = M') : dKont P K n np ops ds l i f g s dst R d M = dKont P K n np ops ds l i' f' g' s' dst R d' M' := by rw [h, hi, hf, hg, hd, hM]
@[congr] theorem footK_congr {K : Kt} {ops : Array Oper} {ds : List (Option Tmp)} {o : Oper} {l : List Oper} {i i' f f' : Nat} {g g' : List Le3} {s s' : S} {R : S → Prop} {x x' : Option (List Nat × List Nat)} (h : s = s') (hi : i = i') (hf : f = f') (hg : g = g') (hx : x = x') : footK P K n np ops ds o l i f g s R x = footK P K n np ops ds o l i' f' g' s' R x' := by rw [h, hi, hf, hg, hx]
def retP2 (np : Nat) (kinds : List Bool) (post : Res → Prop) (ds : List D) (M : Mem) : Prop :=
  match mapO (rdOf np M) ds, ioOut M kinds 0 with
  | some rds, some ios => (ds.filterMap (ownId M)).Nodup ∧ post ⟨rds, ios⟩
  | _, _ => False
def retP (P : Program) (np : Nat) (kinds : List Bool) (rvs : List ResultVar) (post : Res → Prop) (s : S) : Prop :=
  match mapO (resD P s) rvs with
  | some ds => retP2 np kinds post ds (frzA np (frzR np s.mem ds) (ioBoxes kinds 0))
  | none => False
theorem retS_of {kinds : List Bool} {rvs : List ResultVar} {post : Res → Prop} {s : S} (h : retP P np kinds rvs post s) : RetS P np kinds rvs post s := by
  unfold retP at h
  split at h
  · rename_i ds hds
    unfold retP2 at h
    split at h
    · rename_i rds ios h1 h2
      exact ⟨ds, hds, _, rfl, rds, ios, h1, h2, h.1, h.2⟩
    · exact h.elim
  · exact h.elim
theorem aw_ret' {kinds : List Bool} {rvs : List ResultVar} {post : Res → Prop} {s : S} (h : retP P np kinds rvs post s) : RetQ P np kinds rvs post .ret s := retS_of h
theorem aw_end' {kinds : List Bool} {rvs : List ResultVar} {post : Res → Prop} {s : S} (h : retP P np kinds rvs post s) : RetQ P np kinds rvs post .normal s := retS_of h
end rules

theorem semPick_b (t : Bool) (a b : D) (M : Mem) (nx : D → Mem → Prop) : semPick (.v (.bool t)) a b M nx = gate t true (nx a M) (nx b M) := rfl
theorem kont_in {P : Program} {K : Kt} {n np : Nat} {ds : List (Option Tmp)} {l : List Oper} {fid : Nat} {s : S} {dst : Option Tmp} {Q : S → Prop} {d : D} {M : Mem} (h : runL P K n np ds l fid (s.put dst d M) Q) : kont P K n np ds l fid s dst Q d M := h
theorem dKont_in {P : Program} {K : Kt} {n np : Nat} {ops : Array Oper} {ds : List (Option Tmp)} {l : List Oper} {i fid : Nat} {log : List Le3} {s : S} {dst : Option Tmp} {Q : S → Prop} {d : D} {M : Mem} (h : dRunL P K n np ops ds l i fid log (s.put dst d M) Q) : dKont P K n np ops ds l i fid log s dst Q d M := h

theorem memOf_free {ml : List (Nat × Ent)} {fid : Nat} (h : (ml.all fun p => decide (p.1 < fid)) = true) (j : Nat) : memOf ml (fid + j) = none := by
  induction ml with
  | nil => rfl
  | cons p ml ih =>
    simp only [List.all_cons, Bool.and_eq_true, decide_eq_true_eq] at h
    obtain ⟨k, e⟩ := p
    simp only [memOf]
    rw [if_neg (by omega)]
    exact ih h.2

/-- A call of a function that hands back one value. -/
theorem call_fn {K : Kt} {f : FuncId} {c : Con} {np fid : Nat} {ds : List D} {M : Mem} {nx : D → Mem → Prop} {res : c.α → D} (hk : K f = some c) (hs : c.srt = none) (hcl : c.clean = true) (hpost : ∀ a r, c.post a r → r = ⟨[.d (res a)], []⟩)
    (a : c.α) (ha : argsV M ds = some (c.args a)) (hp : c.pre a) (hfree : M fid = none) (hn : nx (res a) M) : semCall K np f ds M fid nx := by
  unfold semCall
  rw [hk]
  simp only [hs, hcl, if_true]
  refine ⟨a, ha, hp, fun r hr => ?_⟩
  rw [hpost a r hr]
  refine ⟨fun j hj => ?_, hn⟩
  have : j = 0 := by simpa using hj
  subst this; exact hfree

/-- A call of a method that turns the variable behind its receiver and hands back one value. -/
theorem call_io {K : Kt} {f : FuncId} {c : Con} {np fid id : Nat} {ds : List D} {M : Mem} {nx : D → Mem → Prop} {res : c.α → D} {cs : c.α → List D} (hk : K f = some c) (hs : c.srt = none) (hcl : c.clean = false) (hpost : ∀ a r, c.post a r → r = ⟨[.d (res a)], [cs a]⟩)
    (a : c.α) (hnf : ds.all (nf np M) = true) (hid : ioIds c.kinds ds = [id]) (ha : argsF M c.kinds ds = some (c.args a)) (hp : c.pre a) (hfree : M fid = none) (hn : nx (res a) (upd M id (some (.cells (cs a))))) : semCall K np f ds M fid nx := by
  unfold semCall
  rw [hk]
  simp only [hs, hcl, nfA_eq hnf, hid]
  refine ⟨by simp, a, ha, hp, fun r hr => ?_⟩
  rw [hpost a r hr]
  refine ⟨fun j hj => ?_, hn⟩
  have : j = 0 := by simpa using hj
  subst this; exact hfree

/-- .. which freezes rows that it is given. -/
theorem call_ioF {K : Kt} {f : FuncId} {c : Con} {np fid id : Nat} {ds : List D} {M M' : Mem} {nx : D → Mem → Prop} {res : c.α → D} {cs : c.α → List D} (hk : K f = some c) (hs : c.srt = none) (hcl : c.clean = false) (hpost : ∀ a r, c.post a r → r = ⟨[.d (res a)], [cs a]⟩)
    (a : c.α) (hfr : frzA np M ds = M') (hid : ioIds c.kinds ds = [id]) (ha : argsF M' c.kinds ds = some (c.args a)) (hp : c.pre a) (hfree : M fid = none) (hn : nx (res a) (upd M' id (some (.cells (cs a))))) : semCall K np f ds M fid nx := by
  unfold semCall
  rw [hk]
  simp only [hs, hcl, hfr, hid]
  refine ⟨by simp, a, ha, hp, fun r hr => ?_⟩
  rw [hpost a r hr]
  refine ⟨fun j hj => ?_, hn⟩
  have : j = 0 := by simpa using hj
  subst this; exact hfree

/-- A state that forgets some of its slots. -/
theorem weak_sub {n np : Nat} {el el' : List (Nat × D)} {ml : List (Nat × Ent)} {x y : Nat} (h : ∀ p, p ∈ el' → envOf el p.1 = p.2) : Weak n np ⟨envOf el, memOf ml, x⟩ ⟨envOf el', memOf ml, y⟩ := by
  rintro F a w hn hnp ⟨h1, h2, g, hM, henv⟩
  refine ⟨h1, h2, g, hM, fun t => ?_⟩
  rcases envOf_mem (l := el') (i := t) with hj | hj
  · simp only [hj]; exact .junk _
  · have e : envOf el t = envOf el' t := h _ hj
    have := henv t
    simp only [e] at this
    exact this

theorem chk_in {ops : Array Oper} {log : List Le3} {B : Prop} (h : chk ops log = true) (k : B) : chk ops log = true ∧ B := ⟨h, k⟩

theorem kOf_nil (g : FuncId) : kOf [] g = none := rfl

theorem put_some (el : List (Nat × D)) (ml : List (Nat × Ent)) (x : Nat) (t : Tmp) (d : D) (M : Mem) : S.put ⟨envOf el, memOf ml, x⟩ (some t) d M = ⟨envOf ((t, d) :: el), M, x⟩ := by
  rfl
theorem put_none (el : List (Nat × D)) (ml : List (Nat × Ent)) (x : Nat) (d : D) (M : Mem) : S.put ⟨envOf el, memOf ml, x⟩ none d M = ⟨envOf el, M, x⟩ := rfl
theorem upd_memOf (ml : List (Nat × Ent)) (i : Nat) (e : Ent) : upd (memOf ml) i (some e) = memOf ((i, e) :: ml) := by
  funext j
  simp [upd, memOf]

end Go.Abs

/- The abstract machine, twenty-first part: a nil slice is an empty one, for a callee that does not ask. -/
set_option linter.unusedVariables false
set_option linter.unusedSimpArgs false
namespace Go.Abs
open Go

inductive NilLe : List AD → List AD → Prop
  | nil : NilLe [] []
  | same (x : AD) (l r : List AD) (h : NilLe l r) : NilLe (x :: l) (x :: r)
  | z (sz : Nat) (l r : List AD) (h : NilLe l r) : NilLe (.d .nils :: l) (.d (.sl sz []) :: r)
theorem NilLe.refl : ∀ l : List AD, NilLe l l
  | [] => .nil
  | x :: l => .same x l l (NilLe.refl l)

theorem ArgsOk.nilLe {A : Nat → Prop} {w : World} {l r : List AD} (h : NilLe l r) : ∀ {vs : List Value} {io : List Nat}, ArgsOk A w l vs io → ArgsOk A w r vs io := by
  induction h with
  | nil => intro vs io hA; exact hA
  | same x l r h ih =>
    intro vs io hA
    cases hA with
    | d x v al vs io hx hr => exact .d x v _ vs io hx (ih hr)
    | io cs b c T al vs io hb hl hx hr => exact .io cs b c T _ vs io hb hl hx (ih hr)
  | z sz l r h ih =>
    intro vs io hA
    cases hA with
    | d x v al vs io hx hr =>
      refine .d _ v _ vs io ?_ (ih hr)
      cases hx.cell rfl with
      | c _ _ hh => cases hh with
        | nils => exact .c _ _ (.c _ _ (.sl sz [] none 0 (fun _ _ => .nilFunc) (by simp) (by simp) (by simp) (by simp)))

def nilC (c : Con) : Con where
  α := List AD × c.α
  kinds := c.kinds
  args := fun a => a.1
  pre := fun a => NilLe a.1 (c.args a.2) ∧ c.pre a.2
  post := fun a r => c.post a.2 r
  clean := c.clean

theorem nilC_ok {P : Program} {f : FuncId} {c : Con} (h : CallOk P f c) : CallOk P f (nilC c) := by
  refine ⟨h.fn, fun hc a r hp hr => h.clean hc a.2 r hp.2 hr, fun a hp w A io vs hA hn hio hlt => ?_⟩
  exact h.calls a.2 hp.2 w A io vs (hA.nilLe hp.1) hn hio hlt

/-- A state that forgets slots and variables. -/
theorem weak_to {n np : Nat} {el el' : List (Nat × D)} {ml ml' : List (Nat × Ent)} {x y : Nat} (he : ∀ p, p ∈ el' → reD _root_.id (memOf ml') p.2 = some (envOf el p.1))
    (hm : ∀ p, p ∈ ml' → reE _root_.id (memOf ml') p.2 = memOf ml p.1 ∧ (reE _root_.id (memOf ml') p.2).isSome = true) (hp : ∀ j, j < np → memOf ml j = none ∨ (memOf ml' j).isSome = true) : Weak n np ⟨envOf el, memOf ml, x⟩ ⟨envOf el', memOf ml', y⟩ :=
  weak_re (s := ⟨envOf el, memOf ml, x⟩) _root_.id el' ml' y he (fun p hp' => ⟨(hm p hp').1, (hm p hp').2, fun h => h⟩) (fun p q _ _ h => h) (fun j hj => (hp j hj).imp _root_.id fun h => ⟨h, rfl⟩)

/-- A list's slice: nil, or of elements. -/
def IsL (sz : Nat) (es : List (List D)) (d : D) : Prop := d = .sl sz es ∨ (d = .nils ∧ es = [])

end Go.Abs

/- The abstract machine: what the walk's simp knows. -/
set_option linter.unusedVariables false
set_option linter.unusedSimpArgs false
namespace Go.Abs
open Go

/-- An element of a list; where there is none, any. -/
def at0 {α : Type} [Inhabited α] (l : List α) (n : Nat) : α := (l[n]?).getD default
theorem get_in {α : Type} [Inhabited α] {l : List α} {n : Nat} (h : n < l.length) : l[n]? = some (at0 l n) := by
  unfold at0; rw [List.getElem?_eq_getElem h]; rfl
theorem at0_mem {α : Type} [Inhabited α] {l : List α} {n : Nat} (h : n < l.length) : at0 l n ∈ l := List.mem_of_getElem? (get_in h)
attribute [go_sem] bne_self_eq_false List.length_range List.length_reverse implies_true Int.toNat_zero Nat.sub_zero List.drop_zero List.append_nil List.length_append List.length_take List.length_drop put_some put_none upd_memOf envOf_cons envOf_nil memOf_cons memOf_nil sem opd cellD flat semBin semBinV intOp semPick_b semUn semConv semExtract semAlloc semBox semBuildT semBuildSlice semLoad semStore semNil semMakeFunc semMakeSlice semSlice semFieldAddr semField semIndexAddr semIndex semBuiltin semLen semAppend semMM mmD semMakeMap semLookup semLookup0 semLookupR semMapUpdate semMapUpdate0 semMapR semRange semNext semEntry getCell getCells cellsD isCell partsD boundD lenD rowsOf frz frz0 frz1 frzL frzA fz fz0 mapO bsD fillD splice eqCells ckOk eqOk slD kdD keyOk okD List.length_set List.length_replicate List.replicate_succ List.replicate_zero List.set_cons_zero List.set_cons_succ List.length_map List.getElem?_map Int.toNat_natCast true_and and_true List.length_cons List.length_nil List.map_cons List.map_nil List.all_cons List.all_nil List.getElem?_cons_zero List.getElem?_cons_succ List.take_succ_cons List.take_zero List.drop_succ_cons List.drop_zero List.cons_append List.nil_append List.append_nil List.toList_toArray Bool.and_true Bool.true_and Bool.not_true Bool.not_false beq_self_eq_true Option.map_some Option.map_none Option.isSome_some runL_nil runL_cons stepK at_ dstOk gate_tt gate_tf gate_ft gate_ff endQ_app thenQ blockQ condP kOf_cons kOf_nil argsV argsF consAD ioArg ioIds ioM retD retM tupD dRunL_nil dRunL_cons footK foot ids ids0 nf nf0 nf1 fid4 List.flatMap_cons List.flatMap_nil retP retP2 resD rdOf ownId ioOut ioBoxes frzR frzR1 List.filterMap_cons List.filterMap_nil List.nodup_nil List.nodup_cons List.not_mem_nil not_false_eq_true List.mem_cons or_false

end Go.Abs

/- The abstract machine: results that are rows, nil or not; states with other identities. -/
set_option linter.unusedVariables false
set_option linter.unusedSimpArgs false
namespace Go.Abs
open Go

/-- A nil result is a row of no elements. -/
inductive OwnLe : List RD → List RD → Prop
  | nil : OwnLe [] []
  | same (x : RD) (l r : List RD) (h : OwnLe l r) : OwnLe (x :: l) (x :: r)
  | z (sz : Nat) (l r : List RD) (h : OwnLe l r) : OwnLe (.d .nils :: l) (.own sz [] :: r)
theorem OwnLe.refl : ∀ l : List RD, OwnLe l l
  | [] => .nil
  | x :: l => .same x l l (OwnLe.refl l)
theorem OwnLe.len {l r : List RD} (h : OwnLe l r) : l.length = r.length := by
  induction h with
  | nil => rfl
  | same x l r h ih => simp [ih]
  | z sz l r h ih => simp [ih]

/-- The places that a nil result takes. -/
def ownGi : List RD → List RD → List (Option GI) → List (Option GI)
  | .d .nils :: l, .own sz [] :: r, _ :: g => some ⟨0, 0, sz, 0, false⟩ :: ownGi l r g
  | _ :: l, _ :: r, x :: g => x :: ownGi l r g
  | _, _, g => g

theorem ownGi_get {l r : List RD} (h : OwnLe l r) : ∀ {g : List (Option GI)}, g.length = l.length → (ownGi l r g).length = g.length ∧ ∀ (i : Nat) (gi' : Option GI), (ownGi l r g)[i]? = some gi' →
    (g[i]? = some gi' ∧ l[i]? = r[i]?) ∨ (∃ sz : Nat, gi' = some ⟨0, 0, sz, 0, false⟩ ∧ l[i]? = some (.d .nils) ∧ r[i]? = some (.own sz [])) := by
  induction h with
  | nil => intro g hg; simp at hg; subst hg; simp [ownGi]
  | same x l r h ih =>
    intro g hg
    cases g with
    | nil => simp at hg
    | cons y g =>
      have e : ownGi (x :: l) (x :: r) (y :: g) = y :: ownGi l r g := by
        cases x with
        | d d => rw [ownGi]; intro sz h1 h2; cases h2
        | own sz es => rw [ownGi]; intro _ h; cases h
        | nbox cs => rw [ownGi]; intro _ h; cases h
        | omap kvs => rw [ownGi]; intro _ h; cases h
      rw [e]
      obtain ⟨i1, i2⟩ := ih (g := g) (by simpa using hg)
      refine ⟨by simp [i1], fun i gi' hi => ?_⟩
      cases i with
      | zero => simp at hi; subst hi; exact .inl ⟨by simp, by simp⟩
      | succ i => simpa using i2 i gi' (by simpa using hi)
  | z sz l r h ih =>
    intro g hg
    cases g with
    | nil => simp at hg
    | cons y g =>
      have e : ownGi (.d .nils :: l) (.own sz [] :: r) (y :: g) = some ⟨0, 0, sz, 0, false⟩ :: ownGi l r g := rfl
      rw [e]
      obtain ⟨i1, i2⟩ := ih (g := g) (by simpa using hg)
      refine ⟨by simp [i1], fun i gi' hi => ?_⟩
      cases i with
      | zero => simp at hi; subst hi; exact .inr ⟨sz, rfl, by simp, by simp⟩
      | succ i => simpa using i2 i gi' (by simpa using hi)

theorem RetOk.own {A : Nat → Prop} {w w' : World} {io : List Nat} {r r' : Res} {v : Value} (h : RetOk A w io r v w') (hl : OwnLe r.ret r'.ret) (hio : r'.io = r.io) : RetOk A w io r' v w' := by
  obtain ⟨h1, h2, h3, h4, h5, h6, gis, vs, k1, k2, k3, k4, k5, k6, k7, k8⟩ := h
  obtain ⟨q1, q2⟩ := ownGi_get hl k3
  have old : ∀ (i : Nat) (gi : GI), (ownGi r.ret r'.ret gis)[i]? = some (some gi) → gi.live = true → gis[i]? = some (some gi) := by
    intro i gi hi hlv
    rcases q2 i _ hi with ⟨h, _⟩ | ⟨sz, h, _⟩
    · exact h
    · cases h; cases hlv
  have hmem : ∀ (gi : GI), some gi ∈ ownGi r.ret r'.ret gis → gi.live = true → some gi ∈ gis := by
    intro gi hm hlv
    obtain ⟨i, hi⟩ := List.getElem?_of_mem hm
    exact List.mem_of_getElem? (old i gi hi hlv)
  have hA : ∀ b, RetA A w w' gis b → RetA A w w' (ownGi r.ret r'.ret gis) b := fun b hb => ⟨hb.1, hb.2.1, fun (gi : GI) hm hlv => hb.2.2 gi (hmem gi hm hlv) hlv⟩
  refine ⟨h1, h2, h3, h4, h5, h6, ownGi r.ret r'.ret gis, vs, k1, k2.trans hl.len, q1.trans (k3.trans hl.len), fun i rd gi u x1 x2 x3 => ?_, fun gi hm hlv => k5 gi (hmem gi hm hlv) hlv, fun i j gi gj hij x1 x2 y1 y2 => k6 i j gi gj hij (old i gi x1 y1) (old j gj x2 y2) y1 y2, by rw [hio]; exact k7, fun i b cs x1 x2 => ?_⟩
  · rcases q2 i gi x2 with ⟨hg, hr⟩ | ⟨sz, hg, hr0, hr1⟩
    · rw [← hr] at x1
      have := k4 i rd gi u x1 hg x3
      cases rd with
      | d x => cases gi with
        | none => exact Tv.world this fun b hb => ⟨hA b hb, rfl⟩
        | some gi => exact this.elim
      | own sz es => cases gi with
        | none => exact this.elim
        | some gi =>
          obtain ⟨⟨a0, a1, a2, a3, a4, a5⟩, hh⟩ := this
          refine ⟨⟨a0, a1, a2, a3, a4, fun hlv => ?_⟩, hh⟩
          obtain ⟨b0, c, T, b1, b2, b3⟩ := a5 hlv
          exact ⟨fun h => (by cases h), c, T, b1, b2, fun i j e d u x y z => (b3 i j e d u x y z).mono fun b hb => ⟨hA b hb, rfl⟩⟩
      | nbox cs => cases gi with
        | none => exact this.elim
        | some gi =>
          obtain ⟨⟨a0, c, T, b1, b2, b3⟩, hh⟩ := this
          exact ⟨⟨a0, c, T, b1, b2, fun i d u x y => (b3 i d u x y).mono ⟨fun _ _ h => h, fun b hb => ⟨hA b hb, rfl⟩⟩⟩, hh⟩
      | omap kvs => cases gi with
        | none => exact this.elim
        | some gi =>
          obtain ⟨⟨a0, a1, es, b1, b2, b3⟩, hh⟩ := this
          exact ⟨⟨a0, fun h => (by cases h), es, b1, b2, b3.mono fun b hb => ⟨hA b hb, rfl⟩⟩, hh⟩
    · rw [hr1] at x1; cases x1; subst hg
      have hg2 : ∃ gi0, gis[i]? = some gi0 := by
        have hlt : i < (ownGi r.ret r'.ret gis).length := by
          rcases Nat.lt_or_ge i (ownGi r.ret r'.ret gis).length with h | h
          · exact h
          · rw [List.getElem?_eq_none h] at x2; cases x2
        exact ⟨_, List.getElem?_eq_getElem (by omega)⟩
      obtain ⟨gi0, hg0⟩ := hg2
      have := k4 i _ gi0 u hr0 hg0 x3
      cases gi0 with
      | some gi0 => exact this.elim
      | none =>
        have hu : u = .slice none 0 0 := by
          cases Tv.cell this rfl with
          | c _ _ hr => cases hr with | nils => rfl
        subst hu
        exact ⟨⟨rfl, rfl, by simp, by simp, fun _ => ⟨rfl, rfl⟩, fun h => by cases h⟩, none, 0, rfl, by simp, by simp, .inl rfl⟩
  · rw [hio] at x2
    obtain ⟨c, T, b1, b2, b3⟩ := k8 i b cs x1 x2
    exact ⟨c, T, b1, b2, fun i d u x y => (b3 i d u x y).mono ⟨fun _ _ h => h, fun b hb => ⟨hA b hb, rfl⟩⟩⟩

/-- What a body is asked: a result may be nil where a row of no elements is meant. -/
def ownP (post : Res → Prop) : Res → Prop := fun r => ∃ r', post r' ∧ OwnLe r.ret r'.ret ∧ r'.io = r.io

theorem ok_of_body_own {P : Program} {f : FuncId} {c : Con} {fn : Func} {code : Code} (n np : Nat) (hf : P.funcs[f]? = some fn) (hb : fn.body = some code) (hname : (fn.name == "runtime.NumGoroutine") = false) (hn : fn.ntmps = n)
    (hargs : ∀ a, c.pre a → (c.args a).length = np ∧ (c.args a).map AD.isIo = c.kinds) (hnp : np ≤ n) (clean : c.clean = true → ∀ a r, c.pre a → c.post a r → r.ret.all plainRD = true)
    (h : ∀ a, c.pre a → AW P n np code (RetQ P np c.kinds fn.results.toList (ownP (c.post a))) ⟨envOf (initE 0 (c.args a)), memOf (initMm 0 (c.args a)), (c.args a).length⟩) : CallOk P f c := by
  have k := ok_of_body' (c := { c with post := fun a => ownP (c.post a) }) n np hf hb hname hn hargs hnp (fun hc a r hp hr => by
    obtain ⟨r', h1, h2, h3⟩ := hr
    have := clean hc a r' hp h1
    clear h1 h3
    generalize r.ret = l at h2 ⊢
    generalize r'.ret = l' at h2 this
    induction h2 with
    | nil => rfl
    | same x l r h ih => simp only [List.all_cons, Bool.and_eq_true] at this ⊢; exact ⟨this.1, ih this.2⟩
    | z sz l r h ih => simp only [List.all_cons, Bool.and_eq_true] at this ⊢; exact ⟨rfl, ih this.2⟩) h
  refine ⟨k.fn, clean, fun a hp w A io vs hA hn hio hlt => ?_⟩
  refine (k.calls a hp w A io vs hA hn hio hlt).mono ?_
  rintro e w' ⟨v, r, he, ⟨r', h1, h2, h3⟩, h4⟩
  exact ⟨v, r', he, h1, h4.own h2 h3⟩

section rules
variable {P : Program} {n np : Nat} {Q : Exit → S → Prop}

/-- A nil slice is a row of no elements. -/
theorem aw_nil (t f sz : Nat) {c : Code} {el : List (Nat × D)} {ml : List (Nat × Ent)} {x : Nat} (ht : envOf el t = .nils) (hf : memOf ml f = none)
    (h : AW P n np c Q ⟨envOf ((t, .row f) :: el), memOf ((f, .row sz [] true) :: ml), x⟩) : AW P n np c Q ⟨envOf el, memOf ml, x⟩ := by
  refine aw_weak (weak_nil (s := ⟨envOf el, memOf ml, x⟩) t f sz ht hf) ?_
  have e1 : upd (envOf el) t (.row f) = envOf ((t, .row f) :: el) := rfl
  simp only [e1, upd_memOf]
  exact h

/-- Other identities: each new one by the old one that it was. -/
def rho : List (Nat × Nat) → Nat → Nat
  | [], j => j
  | (a, b) :: l, j => if j = a then b else rho l j

theorem weak_as {el el' : List (Nat × D)} {ml ml' : List (Nat × Ent)} {x y : Nat} (ρ : List (Nat × Nat))
    (he : ∀ p, p ∈ el' → reD (rho ρ) (memOf ml') p.2 = some (envOf el p.1))
    (hm : ∀ p, p ∈ ml' → reE (rho ρ) (memOf ml') p.2 = memOf ml (rho ρ p.1))
    (hs : ∀ p, p ∈ ml' → (reE (rho ρ) (memOf ml') p.2).isSome = true)
    (hn : ml'.all (fun p => decide (np ≤ p.1 → np ≤ rho ρ p.1)) = true)
    (hd : ((ml'.map fun p => rho ρ p.1).Nodup : Bool) = true)
    (hp : ((List.range np).all fun j => (memOf ml j).isNone || ((memOf ml' j).isSome && rho ρ j == j)) = true) : Weak n np ⟨envOf el, memOf ml, x⟩ ⟨envOf el', memOf ml', y⟩ := by
  refine weak_re (s := ⟨envOf el, memOf ml, x⟩) (rho ρ) el' ml' y he (fun p hp' => ⟨hm p hp', hs p hp', ?_⟩) (fun p q h1 h2 h3 => ?_) (fun j hj => ?_)
  · rw [List.all_eq_true] at hn
    exact of_decide_eq_true (hn p hp')
  · have hd' : (ml'.map fun p => rho ρ p.1).Nodup := by simpa using hd
    have key : ∀ {l : List (Nat × Ent)}, (l.map fun p => rho ρ p.1).Nodup → p ∈ l → q ∈ l → p = q := by
      intro l hl hp hq
      induction l with
      | nil => cases hp
      | cons a l ih =>
        simp only [List.map_cons, List.nodup_cons, List.mem_map, not_exists, not_and] at hl
        rcases List.mem_cons.1 hp with rfl | hp1 <;> rcases List.mem_cons.1 hq with rfl | hq1
        · rfl
        · exact absurd h3.symm (hl.1 q hq1)
        · exact absurd h3 (hl.1 p hp1)
        · exact ih hl.2 hp1 hq1
    rw [key hd' h1 h2]
  · rw [List.all_eq_true] at hp
    have := hp j (List.mem_range.2 hj)
    simp only [Bool.or_eq_true, Bool.and_eq_true, beq_iff_eq, Option.isNone_iff_eq_none] at this
    exact this
/-- A loop; a round's end: first what the state is, then what holds of it. -/
theorem aw_rounds {α : Type} {s : S} (I : α → S) (inv : α → Prop) (μ : α → Nat) (x0 : α) {c : Code} (h0 : inv x0) (hs : Weak n np s (I x0))
    (round : ∀ x, inv x → AW P n np c (thenQ (fun s' => ∃ x', Weak n np s' (I x') ∧ inv x' ∧ μ x' < μ x) Q) (I x)) : AW P n np (.loop c) Q s :=
  aw_loop I inv μ x0 h0 hs fun x hx => aw_mono (round x hx) fun e s' hq => by
    cases e with
    | normal => obtain ⟨x', h1, h2, h3⟩ := hq; exact ⟨x', h2, h3, h1⟩
    | _ => exact hq

/-- The same, one slot and one identity after another. -/
def heP (ρ : List (Nat × Nat)) (M' : Mem) (el : List (Nat × D)) : List (Nat × D) → Prop
  | [] => True
  | p :: l => reD (rho ρ) M' p.2 = some (envOf el p.1) ∧ heP ρ M' el l
def hmP (ρ : List (Nat × Nat)) (M' M : Mem) : List (Nat × Ent) → Prop
  | [] => True
  | p :: l => (reE (rho ρ) M' p.2 = M (rho ρ p.1) ∧ (M (rho ρ p.1)).isSome = true) ∧ hmP ρ M' M l
theorem heP_mem {ρ : List (Nat × Nat)} {M' : Mem} {el l : List (Nat × D)} (h : heP ρ M' el l) : ∀ p, p ∈ l → reD (rho ρ) M' p.2 = some (envOf el p.1) := by
  induction l with
  | nil => intro p hp; cases hp
  | cons a l ih =>
    intro p hp
    rcases List.mem_cons.1 hp with rfl | hp
    · exact h.1
    · exact ih h.2 p hp
theorem hmP_mem {ρ : List (Nat × Nat)} {M' M : Mem} {l : List (Nat × Ent)} (h : hmP ρ M' M l) : ∀ p, p ∈ l → reE (rho ρ) M' p.2 = M (rho ρ p.1) ∧ (M (rho ρ p.1)).isSome = true := by
  induction l with
  | nil => intro p hp; cases hp
  | cons a l ih =>
    intro p hp
    rcases List.mem_cons.1 hp with rfl | hp
    · exact h.1
    · exact ih h.2 p hp
theorem weak_in {el el' : List (Nat × D)} {ml ml' : List (Nat × Ent)} {x y : Nat} (ρ : List (Nat × Nat)) (he : heP ρ (memOf ml') el el') (hm : hmP ρ (memOf ml') (memOf ml) ml')
    (hn : ml'.all (fun p => decide (np ≤ p.1 → np ≤ rho ρ p.1)) = true) (hd : ((ml'.map fun p => rho ρ p.1).Nodup : Bool) = true)
    (hp : ((List.range np).all fun j => (memOf ml j).isNone || ((memOf ml' j).isSome && rho ρ j == j)) = true) : Weak n np ⟨envOf el, memOf ml, x⟩ ⟨envOf el', memOf ml', y⟩ :=
  weak_as ρ (heP_mem he) (fun p h => (hmP_mem hm p h).1) (fun p h => by rw [(hmP_mem hm p h).1]; exact (hmP_mem hm p h).2) hn hd hp
end rules

/-- A call of a method that turns the variable behind its receiver; whatever it hands back. -/
theorem call_ioR {K : Kt} {f : FuncId} {c : Con} {np fid id : Nat} {ds : List D} {M : Mem} {nx : D → Mem → Prop} (hk : K f = some c) (hs : c.srt = none) (hcl : c.clean = false) (a : c.α)
    (hnf : ds.all (nf np M) = true) (hid : ioIds c.kinds ds = [id]) (ha : argsF M c.kinds ds = some (c.args a)) (hp : c.pre a) (hf : ∀ j, M (fid + j) = none)
    (hn : ∀ r, c.post a r → nx (tupD (retD fid r.ret)) (retM fid (ioM M [id] r.io) r.ret)) : semCall K np f ds M fid nx := by
  unfold semCall
  rw [hk]
  simp only [hs, hcl, nfA_eq hnf, hid]
  exact ⟨by simp, a, ha, hp, fun r hr => ⟨fun j _ => hf j, hn r hr⟩⟩

/-- A call of a function that is handed no variable, whose results may bear what it is handed. -/
theorem call_uR {K : Kt} {f : FuncId} {c : Con} {np fid : Nat} {ds : List D} {M : Mem} {nx : D → Mem → Prop} (hk : K f = some c) (hs : c.srt = none) (hcl : c.clean = false) (a : c.α)
    (hnf : ds.all (nf np M) = true) (hid : ioIds c.kinds ds = []) (ha : argsF M c.kinds ds = some (c.args a)) (hp : c.pre a) (hf : ∀ j, M (fid + j) = none)
    (hn : ∀ r, c.post a r → nx (tupD (retD fid r.ret)) (retM fid M r.ret)) : semCall K np f ds M fid nx := by
  unfold semCall
  rw [hk]
  simp only [hs, hcl, nfA_eq hnf, hid]
  exact ⟨by simp, a, ha, hp, fun r hr => ⟨fun j _ => hf j, hn r hr⟩⟩

/-- A call of a function that turns nothing; whatever it hands back. -/
theorem call_clR {K : Kt} {f : FuncId} {c : Con} {np fid : Nat} {ds : List D} {M : Mem} {nx : D → Mem → Prop} (hk : K f = some c) (hs : c.srt = none) (hcl : c.clean = true) (a : c.α)
    (ha : argsV M ds = some (c.args a)) (hp : c.pre a) (hf : ∀ j, M (fid + j) = none)
    (hn : ∀ r, c.post a r → nx (tupD (retD fid r.ret)) (retM fid M r.ret)) : semCall K np f ds M fid nx := by
  unfold semCall
  rw [hk]
  simp only [hs, hcl, if_true]
  exact ⟨a, ha, hp, fun r hr => ⟨fun j _ => hf j, hn r hr⟩⟩

end Go.Abs

/- The abstract machine: a law's row. -/
set_option linter.unusedVariables false
set_option linter.unusedSimpArgs false
namespace Go.Abs
open Go Go.ChangeShapes Go.WideShapes Go.ChangeAt Go.RowKit

def IsRow (k : IntKind) (w : World) (a : Option Addr) (len cap : Nat) (zs : List Int) : Prop :=
  (a = none ∧ len = 0 ∧ cap = 0 ∧ zs = []) ∨
  ∃ x, a = some x ∧ len ≤ cap ∧ cap ≤ maxLen ∧ zs.length = cap ∧ (∀ i, i < zs.length → w.cell? (x.add i) = some (.int k (zs.getD i 0))) ∧ ∀ n ∈ zs, (Lit.int k n).wf = true

abbrev oldB (W : World) (b : Nat) : Prop := b < W.heap.size

theorem rv_int {A : Nat → Prop} {W : World} (k : IntKind) (n : Int) : Rv A W (.v (.int k n)) (.int k n) := .c _ _ (.c _ _ (.v _ rfl))
theorem rv_bool {A : Nat → Prop} {W : World} (b : Bool) : Rv A W (.v (.bool b)) (.bool b) := .c _ _ (.c _ _ (.v _ rfl))

theorem rv_ints {k : IntKind} {W : World} {a : Option Addr} {len cap : Nat} {zs : List Int} (h : IsRow k W a len cap zs) :
    Rv (oldB W) W (.sl 1 ((zs.take len).map fun x => [.v (.int k x)])) (.slice a len cap) ∧ (zs.take len).length ≤ 9223372036854775807 := by
  rcases h with ⟨rfl, rfl, rfl, rfl⟩ | ⟨x, rfl, h1, h2, h3, h4, h5⟩
  · exact ⟨.c _ _ (.c _ _ (.sl 1 [] none 0 (fun _ _ => .nilFunc) (by simp) (by simp) (by simp) (by simp))), by simp⟩
  · have hl : (zs.take len).length = len := by simp; omega
    refine ⟨?_, by rw [hl]; exact Nat.le_trans (Nat.le_trans h1 h2) (by decide)⟩
    have hc : ∀ i, i < len → x.spot = none ∧ W.cell? ⟨x.block, x.off + i, none⟩ = some (.int k (zs.getD i 0)) := by
      intro i hi
      have h0 := h4 0 (by omega)
      have hs : x.spot = none := by
        simp only [Addr.add, if_true] at h0
        unfold World.cell? at h0
        split at h0
        · cases hsp : x.spot with
          | none => rfl
          | some s => rw [hsp] at h0; simp at h0
        · cases h0
      refine ⟨hs, ?_⟩
      have := h4 i (by omega)
      unfold Addr.add at this
      split at this
      · rename_i hz; subst hz
        rw [← this]
        congr 1
        cases x; simp_all
      · exact this
    have e : ((zs.take len).map fun x => [D.v (.int k x)]).length = len := by rw [List.length_map, hl]
    have := Rc.sl (A := oldB W) (w := W) 1 ((zs.take len).map fun x => [D.v (.int k x)]) (some x) cap (fun i _ => .int k (zs.getD i 0)) (by rw [e]; exact h1) (by intro e' he'; obtain ⟨x, _, rfl⟩ := List.mem_map.1 he'; rfl) (fun hne => ?_) (fun i j e' d hi hj => ?_)
    · rw [e] at this
      exact .c _ _ (.c _ _ this)
    · rw [e]
      have hpos : 0 < len := by
        rcases Nat.eq_zero_or_pos len with h | h
        · subst h; simp at hne
        · exact h
      refine ⟨x.block, x.off, ?_, ?_, fun i j hi hj => ?_⟩
      · have := (hc 0 hpos).1
        cases x; simp_all
      · have := (hc 0 hpos).2
        unfold World.cell? at this
        simp only at this
        show x.block < W.heap.size
        rcases Nat.lt_or_ge x.block W.heap.size with h | h
        · exact h
        · rw [Array.getElem?_eq_none h] at this; cases this
      · have hj0 : j = 0 := by omega
        subst hj0
        simpa using (hc i hi).2
    · simp only [List.getElem?_map, List.getElem?_take] at hi
      split at hi
      · rename_i hlt
        have hz : i < zs.length := by omega
        rw [List.getElem?_eq_getElem hz] at hi
        simp only [Option.map_some, Option.some.injEq] at hi
        subst hi
        cases j with
        | zero =>
          simp at hj; subst hj
          have : zs.getD i 0 = zs[i] := by simp [List.getD, List.getElem?_eq_getElem hz]
          rw [this]; exact .v _ rfl
        | succ j => simp at hj
      · cases hi

theorem law_calls {P : Program} {f : FuncId} {c : Con} (h : CallOk P f c) (a : c.α) (hp : c.pre a) (hpost : ∀ r, c.post a r → r = ⟨[.d (.v (.bool true))], []⟩) {W : World} {vs : List Value} (hA : ArgsOk (oldB W) W (c.args a) vs []) :
    Calls P f vs.toArray W fun e W' => e = .returned (.bool true) ∧ Below W.heap.size W W' := by
  refine (h.calls a hp W (oldB W) [] vs hA .nil (fun b hb => by cases hb) (fun b hb => hb)).mono ?_
  rintro e W' ⟨v, r, rfl, hr, hR⟩
  obtain rfl := hpost r hr
  obtain ⟨h1, h2, h3, h4, h5, h6, gis, us, k1, k2, k3, k4, _⟩ := hR
  have hv : v = .bool true := by
    have hu : us.length = 1 := by simpa using k2
    have hg : gis.length = 1 := by simpa using k3
    rw [k1, if_pos hu]
    match us, gis, hu, hg with
    | [u], [gi], _, _ =>
      have := k4 0 _ gi u rfl rfl rfl
      cases gi with
      | some gi => exact this.elim
      | none =>
        cases Tv.cell this rfl with
        | c _ _ hr => cases hr; rfl
  subst hv
  exact ⟨rfl, h3, h4, h5, h1, fun k hk => h2 k hk (by simp)⟩

end Go.Abs

set_option linter.unusedVariables false
namespace Go.Proofs.R1
open Go Go.Abs
@[go_sem] theorem szT_3 : szT Try.prog 3 = some 1 := by kernel_rfl
@[go_sem] theorem byT_3 : byT Try.prog 3 = some 8 := by kernel_rfl
@[go_sem] theorem agT_3 : agT Try.prog 3 = some false := by kernel_rfl
@[go_sem] theorem zc_3 : zc Try.prog 3 = some [D.v (Value.int IntKind.i64 (0))] := by kernel_rfl
@[go_sem] theorem zD_3 : zD Try.prog 3 = some (D.v (Value.int IntKind.i64 (0))) := by kernel_rfl
@[go_sem] theorem inT_3 : inT Try.prog 3 = some IntKind.i64 := by kernel_rfl
@[go_sem] theorem bkT_3 : bkT Try.prog 3 = some 0 := by kernel_rfl
@[go_sem] theorem szT_4 : szT Try.prog 4 = some 1 := by kernel_rfl
@[go_sem] theorem byT_4 : byT Try.prog 4 = some 1 := by kernel_rfl
@[go_sem] theorem agT_4 : agT Try.prog 4 = some false := by kernel_rfl
@[go_sem] theorem zc_4 : zc Try.prog 4 = some [D.v (Value.bool false)] := by kernel_rfl
@[go_sem] theorem zD_4 : zD Try.prog 4 = some (D.v (Value.bool false)) := by kernel_rfl
@[go_sem] theorem isBoolT_4 : isBoolT Try.prog 4 = true := by kernel_rfl
@[go_sem] theorem bkT_4 : bkT Try.prog 4 = some 1 := by kernel_rfl
@[go_sem] theorem szT_5 : szT Try.prog 5 = some 1 := by kernel_rfl
@[go_sem] theorem byT_5 : byT Try.prog 5 = some 1 := by kernel_rfl
@[go_sem] theorem agT_5 : agT Try.prog 5 = some false := by kernel_rfl
@[go_sem] theorem zc_5 : zc Try.prog 5 = some [D.v (Value.int IntKind.u8 (0))] := by kernel_rfl
@[go_sem] theorem zD_5 : zD Try.prog 5 = some (D.v (Value.int IntKind.u8 (0))) := by kernel_rfl
@[go_sem] theorem inT_5 : inT Try.prog 5 = some IntKind.u8 := by kernel_rfl
@[go_sem] theorem bkT_5 : bkT Try.prog 5 = some 0 := by kernel_rfl
@[go_sem] theorem szT_9 : szT Try.prog 9 = some 1 := by kernel_rfl
@[go_sem] theorem byT_9 : byT Try.prog 9 = some 16 := by kernel_rfl
@[go_sem] theorem agT_9 : agT Try.prog 9 = some false := by kernel_rfl
@[go_sem] theorem zc_9 : zc Try.prog 9 = some [D.v (Value.string { data := { toList := [] } })] := by kernel_rfl
@[go_sem] theorem zD_9 : zD Try.prog 9 = some (D.v (Value.string { data := { toList := [] } })) := by kernel_rfl
@[go_sem] theorem bkT_9 : bkT Try.prog 9 = some 2 := by kernel_rfl
@[go_sem] theorem szT_22 : szT Try.prog 22 = some 1 := by kernel_rfl
@[go_sem] theorem byT_22 : byT Try.prog 22 = some 24 := by kernel_rfl
@[go_sem] theorem agT_22 : agT Try.prog 22 = some false := by kernel_rfl
@[go_sem] theorem zc_22 : zc Try.prog 22 = some [D.nils] := by kernel_rfl
@[go_sem] theorem zD_22 : zD Try.prog 22 = some D.nils := by kernel_rfl
@[go_sem] theorem elT_22 : elT Try.prog 22 = some 3 := by kernel_rfl
@[go_sem] theorem szT_23 : szT Try.prog 23 = some 1 := by kernel_rfl
@[go_sem] theorem byT_23 : byT Try.prog 23 = some 8 := by kernel_rfl
@[go_sem] theorem agT_23 : agT Try.prog 23 = some false := by kernel_rfl
@[go_sem] theorem zc_23 : zc Try.prog 23 = some [D.v (Value.pointer none)] := by kernel_rfl
@[go_sem] theorem zD_23 : zD Try.prog 23 = some (D.v (Value.pointer none)) := by kernel_rfl
@[go_sem] theorem szT_25 : szT Try.prog 25 = some 1 := by kernel_rfl
@[go_sem] theorem byT_25 : byT Try.prog 25 = some 24 := by kernel_rfl
@[go_sem] theorem agT_25 : agT Try.prog 25 = some false := by kernel_rfl
@[go_sem] theorem zc_25 : zc Try.prog 25 = some [D.nils] := by kernel_rfl
@[go_sem] theorem zD_25 : zD Try.prog 25 = some D.nils := by kernel_rfl
@[go_sem] theorem elT_25 : elT Try.prog 25 = some 35 := by kernel_rfl
@[go_sem] theorem szT_27 : szT Try.prog 27 = some 1 := by kernel_rfl
@[go_sem] theorem byT_27 : byT Try.prog 27 = some 8 := by kernel_rfl
@[go_sem] theorem agT_27 : agT Try.prog 27 = some false := by kernel_rfl
@[go_sem] theorem zc_27 : zc Try.prog 27 = some [D.v (Value.int IntKind.i64 (0))] := by kernel_rfl
@[go_sem] theorem zD_27 : zD Try.prog 27 = some (D.v (Value.int IntKind.i64 (0))) := by kernel_rfl
@[go_sem] theorem inT_27 : inT Try.prog 27 = some IntKind.i64 := by kernel_rfl
@[go_sem] theorem bkT_27 : bkT Try.prog 27 = some 0 := by kernel_rfl
@[go_sem] theorem szT_31 : szT Try.prog 31 = some 3 := by kernel_rfl
@[go_sem] theorem byT_31 : byT Try.prog 31 = some 24 := by kernel_rfl
@[go_sem] theorem agT_31 : agT Try.prog 31 = some true := by kernel_rfl
@[go_sem] theorem zc_31 : zc Try.prog 31 = some [D.v (Value.int IntKind.i64 (0)), D.v (Value.int IntKind.i64 (0)), D.v (Value.int IntKind.i64 (0))] := by kernel_rfl
@[go_sem] theorem zD_31 : zD Try.prog 31 = some (D.agg [D.v (Value.int IntKind.i64 (0)), D.v (Value.int IntKind.i64 (0)), D.v (Value.int IntKind.i64 (0))]) := by kernel_rfl
@[go_sem] theorem ckT_31 : ckT Try.prog 31 = some [0, 0, 0] := by kernel_rfl
@[go_sem] theorem ckNT_31 : ckNT Try.prog 31 = some [0, 0, 0] := by kernel_rfl
@[go_sem] theorem plT_31 : plT Try.prog 31 = some [(0, 1), (1, 1), (2, 1)] := by kernel_rfl
@[go_sem] theorem foT_31_0 : foT Try.prog 31 0 = some (0, 3) := by kernel_rfl
@[go_sem] theorem foT_31_1 : foT Try.prog 31 1 = some (1, 3) := by kernel_rfl
@[go_sem] theorem foT_31_2 : foT Try.prog 31 2 = some (2, 3) := by kernel_rfl
@[go_sem] theorem szT_33 : szT Try.prog 33 = some 3 := by kernel_rfl
@[go_sem] theorem byT_33 : byT Try.prog 33 = some 24 := by kernel_rfl
@[go_sem] theorem agT_33 : agT Try.prog 33 = some true := by kernel_rfl
@[go_sem] theorem zc_33 : zc Try.prog 33 = some [D.v (Value.int IntKind.i64 (0)), D.v (Value.int IntKind.i64 (0)), D.v (Value.int IntKind.i64 (0))] := by kernel_rfl
@[go_sem] theorem zD_33 : zD Try.prog 33 = some (D.agg [D.v (Value.int IntKind.i64 (0)), D.v (Value.int IntKind.i64 (0)), D.v (Value.int IntKind.i64 (0))]) := by kernel_rfl
@[go_sem] theorem ckT_33 : ckT Try.prog 33 = some [0, 0, 0] := by kernel_rfl
@[go_sem] theorem ckNT_33 : ckNT Try.prog 33 = some [0, 0, 0] := by kernel_rfl
@[go_sem] theorem plT_33 : plT Try.prog 33 = some [(0, 1), (1, 1), (2, 1)] := by kernel_rfl
@[go_sem] theorem foT_33_0 : foT Try.prog 33 0 = some (0, 3) := by kernel_rfl
@[go_sem] theorem foT_33_1 : foT Try.prog 33 1 = some (1, 3) := by kernel_rfl
@[go_sem] theorem foT_33_2 : foT Try.prog 33 2 = some (2, 3) := by kernel_rfl
@[go_sem] theorem szT_35 : szT Try.prog 35 = some 8 := by kernel_rfl
@[go_sem] theorem byT_35 : byT Try.prog 35 = some 64 := by kernel_rfl
@[go_sem] theorem agT_35 : agT Try.prog 35 = some true := by kernel_rfl
@[go_sem] theorem zc_35 : zc Try.prog 35 = some [D.v (Value.int IntKind.i64 (0)), D.v (Value.int IntKind.i64 (0)), D.v (Value.int IntKind.i64 (0)), D.v (Value.int IntKind.i64 (0)), D.v (Value.int IntKind.i64 (0)), D.v (Value.int IntKind.i64 (0)), D.v (Value.int IntKind.i64 (0)), D.v (Value.int IntKind.i64 (0))] := by kernel_rfl
@[go_sem] theorem zD_35 : zD Try.prog 35 = some (D.agg [D.v (Value.int IntKind.i64 (0)), D.v (Value.int IntKind.i64 (0)), D.v (Value.int IntKind.i64 (0)), D.v (Value.int IntKind.i64 (0)), D.v (Value.int IntKind.i64 (0)), D.v (Value.int IntKind.i64 (0)), D.v (Value.int IntKind.i64 (0)), D.v (Value.int IntKind.i64 (0))]) := by kernel_rfl
@[go_sem] theorem ckNT_35 : ckNT Try.prog 35 = some [0, 0, 0, 0, 0, 0, 0, 0] := by kernel_rfl
@[go_sem] theorem plT_35 : plT Try.prog 35 = some [(0, 3), (3, 1), (4, 3), (7, 1)] := by kernel_rfl
@[go_sem] theorem foT_35_0 : foT Try.prog 35 0 = some (0, 31) := by kernel_rfl
@[go_sem] theorem foT_35_1 : foT Try.prog 35 1 = some (3, 3) := by kernel_rfl
@[go_sem] theorem foT_35_2 : foT Try.prog 35 2 = some (4, 33) := by kernel_rfl
@[go_sem] theorem foT_35_3 : foT Try.prog 35 3 = some (7, 3) := by kernel_rfl
@[go_sem] theorem szT_37 : szT Try.prog 37 = some 1 := by kernel_rfl
@[go_sem] theorem byT_37 : byT Try.prog 37 = some 8 := by kernel_rfl
@[go_sem] theorem agT_37 : agT Try.prog 37 = some false := by kernel_rfl
@[go_sem] theorem zc_37 : zc Try.prog 37 = some [D.v Value.nilFunc] := by kernel_rfl
@[go_sem] theorem zD_37 : zD Try.prog 37 = some (D.v Value.nilFunc) := by kernel_rfl
@[go_sem] theorem szT_41 : szT Try.prog 41 = some 2 := by kernel_rfl
@[go_sem] theorem byT_41 : byT Try.prog 41 = some 16 := by kernel_rfl
@[go_sem] theorem agT_41 : agT Try.prog 41 = some true := by kernel_rfl
@[go_sem] theorem zc_41 : zc Try.prog 41 = some [D.v (Value.int IntKind.i64 (0)), D.v (Value.int IntKind.i64 (0))] := by kernel_rfl
@[go_sem] theorem zD_41 : zD Try.prog 41 = some (D.agg [D.v (Value.int IntKind.i64 (0)), D.v (Value.int IntKind.i64 (0))]) := by kernel_rfl
@[go_sem] theorem ckT_41 : ckT Try.prog 41 = some [0, 0] := by kernel_rfl
@[go_sem] theorem ckNT_41 : ckNT Try.prog 41 = some [0, 0] := by kernel_rfl
@[go_sem] theorem plT_41 : plT Try.prog 41 = some [(0, 1), (1, 1)] := by kernel_rfl
@[go_sem] theorem foT_41_0 : foT Try.prog 41 0 = some (0, 3) := by kernel_rfl
@[go_sem] theorem foT_41_1 : foT Try.prog 41 1 = some (1, 3) := by kernel_rfl
@[go_sem] theorem szT_43 : szT Try.prog 43 = some 1 := by kernel_rfl
@[go_sem] theorem byT_43 : byT Try.prog 43 = some 24 := by kernel_rfl
@[go_sem] theorem agT_43 : agT Try.prog 43 = some false := by kernel_rfl
@[go_sem] theorem zc_43 : zc Try.prog 43 = some [D.nils] := by kernel_rfl
@[go_sem] theorem zD_43 : zD Try.prog 43 = some D.nils := by kernel_rfl
@[go_sem] theorem elT_43 : elT Try.prog 43 = some 49 := by kernel_rfl
@[go_sem] theorem szT_44 : szT Try.prog 44 = some 1 := by kernel_rfl
@[go_sem] theorem byT_44 : byT Try.prog 44 = some 24 := by kernel_rfl
@[go_sem] theorem agT_44 : agT Try.prog 44 = some false := by kernel_rfl
@[go_sem] theorem zc_44 : zc Try.prog 44 = some [D.nils] := by kernel_rfl
@[go_sem] theorem zD_44 : zD Try.prog 44 = some D.nils := by kernel_rfl
@[go_sem] theorem elT_44 : elT Try.prog 44 = some 76 := by kernel_rfl
@[go_sem] theorem szT_47 : szT Try.prog 47 = some 1 := by kernel_rfl
@[go_sem] theorem byT_47 : byT Try.prog 47 = some 8 := by kernel_rfl
@[go_sem] theorem agT_47 : agT Try.prog 47 = some false := by kernel_rfl
@[go_sem] theorem zc_47 : zc Try.prog 47 = some [D.v Value.nilFunc] := by kernel_rfl
@[go_sem] theorem zD_47 : zD Try.prog 47 = some (D.v Value.nilFunc) := by kernel_rfl
@[go_sem] theorem szT_49 : szT Try.prog 49 = some 4 := by kernel_rfl
@[go_sem] theorem byT_49 : byT Try.prog 49 = some 32 := by kernel_rfl
@[go_sem] theorem agT_49 : agT Try.prog 49 = some true := by kernel_rfl
@[go_sem] theorem zc_49 : zc Try.prog 49 = some [D.v (Value.int IntKind.i64 (0)), D.v (Value.int IntKind.i64 (0)), D.v (Value.int IntKind.i64 (0)), D.v (Value.bool false)] := by kernel_rfl
@[go_sem] theorem zD_49 : zD Try.prog 49 = some (D.agg [D.v (Value.int IntKind.i64 (0)), D.v (Value.int IntKind.i64 (0)), D.v (Value.int IntKind.i64 (0)), D.v (Value.bool false)]) := by kernel_rfl
@[go_sem] theorem ckNT_49 : ckNT Try.prog 49 = some [0, 0, 0, 1] := by kernel_rfl
@[go_sem] theorem plT_49 : plT Try.prog 49 = some [(0, 3), (3, 1)] := by kernel_rfl
@[go_sem] theorem foT_49_0 : foT Try.prog 49 0 = some (0, 33) := by kernel_rfl
@[go_sem] theorem foT_49_1 : foT Try.prog 49 1 = some (3, 4) := by kernel_rfl
@[go_sem] theorem szT_53 : szT Try.prog 53 = some 1 := by kernel_rfl
@[go_sem] theorem byT_53 : byT Try.prog 53 = some 8 := by kernel_rfl
@[go_sem] theorem agT_53 : agT Try.prog 53 = some false := by kernel_rfl
@[go_sem] theorem zc_53 : zc Try.prog 53 = some [D.v Value.nilFunc] := by kernel_rfl
@[go_sem] theorem zD_53 : zD Try.prog 53 = some (D.v Value.nilFunc) := by kernel_rfl
@[go_sem] theorem szT_60 : szT Try.prog 60 = some 4 := by kernel_rfl
@[go_sem] theorem byT_60 : byT Try.prog 60 = some 32 := by kernel_rfl
@[go_sem] theorem agT_60 : agT Try.prog 60 = some true := by kernel_rfl
@[go_sem] theorem zc_60 : zc Try.prog 60 = some [D.v (Value.int IntKind.i64 (0)), D.v (Value.int IntKind.i64 (0)), D.v (Value.int IntKind.i64 (0)), D.v (Value.int IntKind.i64 (0))] := by kernel_rfl
@[go_sem] theorem zD_60 : zD Try.prog 60 = some (D.agg [D.v (Value.int IntKind.i64 (0)), D.v (Value.int IntKind.i64 (0)), D.v (Value.int IntKind.i64 (0)), D.v (Value.int IntKind.i64 (0))]) := by kernel_rfl
@[go_sem] theorem elT_60 : elT Try.prog 60 = none := by kernel_rfl
@[go_sem] theorem arT_60 : arT Try.prog 60 = some (4, 3) := by kernel_rfl
@[go_sem] theorem ckT_60 : ckT Try.prog 60 = some [0, 0, 0, 0] := by kernel_rfl
@[go_sem] theorem ckNT_60 : ckNT Try.prog 60 = some [0, 0, 0, 0] := by kernel_rfl
@[go_sem] theorem plT_60 : plT Try.prog 60 = some [(0, 1), (1, 1), (2, 1), (3, 1)] := by kernel_rfl
@[go_sem] theorem szT_64 : szT Try.prog 64 = some 2 := by kernel_rfl
@[go_sem] theorem byT_64 : byT Try.prog 64 = some 32 := by kernel_rfl
@[go_sem] theorem agT_64 : agT Try.prog 64 = some true := by kernel_rfl
@[go_sem] theorem zc_64 : zc Try.prog 64 = some [D.nils, D.v (Value.int IntKind.i64 (0))] := by kernel_rfl
@[go_sem] theorem zD_64 : zD Try.prog 64 = some (D.agg [D.nils, D.v (Value.int IntKind.i64 (0))]) := by kernel_rfl
@[go_sem] theorem plT_64 : plT Try.prog 64 = some [(0, 1), (1, 1)] := by kernel_rfl
@[go_sem] theorem foT_64_0 : foT Try.prog 64 0 = some (0, 22) := by kernel_rfl
@[go_sem] theorem foT_64_1 : foT Try.prog 64 1 = some (1, 3) := by kernel_rfl
@[go_sem] theorem szT_70 : szT Try.prog 70 = some 1 := by kernel_rfl
@[go_sem] theorem byT_70 : byT Try.prog 70 = some 8 := by kernel_rfl
@[go_sem] theorem agT_70 : agT Try.prog 70 = some false := by kernel_rfl
@[go_sem] theorem zc_70 : zc Try.prog 70 = some [D.v Value.nilFunc] := by kernel_rfl
@[go_sem] theorem zD_70 : zD Try.prog 70 = some (D.v Value.nilFunc) := by kernel_rfl
@[go_sem] theorem szT_71 : szT Try.prog 71 = some 1 := by kernel_rfl
@[go_sem] theorem byT_71 : byT Try.prog 71 = some 24 := by kernel_rfl
@[go_sem] theorem agT_71 : agT Try.prog 71 = some false := by kernel_rfl
@[go_sem] theorem zc_71 : zc Try.prog 71 = some [D.nils] := by kernel_rfl
@[go_sem] theorem zD_71 : zD Try.prog 71 = some D.nils := by kernel_rfl
@[go_sem] theorem elT_71 : elT Try.prog 71 = some 31 := by kernel_rfl
@[go_sem] theorem szT_74 : szT Try.prog 74 = some 2 := by kernel_rfl
@[go_sem] theorem byT_74 : byT Try.prog 74 = some 16 := by kernel_rfl
@[go_sem] theorem agT_74 : agT Try.prog 74 = some true := by kernel_rfl
@[go_sem] theorem zc_74 : zc Try.prog 74 = some [D.v (Value.int IntKind.i64 (0)), D.v (Value.int IntKind.i64 (0))] := by kernel_rfl
@[go_sem] theorem zD_74 : zD Try.prog 74 = some (D.agg [D.v (Value.int IntKind.i64 (0)), D.v (Value.int IntKind.i64 (0))]) := by kernel_rfl
@[go_sem] theorem ckT_74 : ckT Try.prog 74 = some [0, 0] := by kernel_rfl
@[go_sem] theorem ckNT_74 : ckNT Try.prog 74 = some [0, 0] := by kernel_rfl
@[go_sem] theorem plT_74 : plT Try.prog 74 = some [(0, 1), (1, 1)] := by kernel_rfl
@[go_sem] theorem foT_74_0 : foT Try.prog 74 0 = some (0, 3) := by kernel_rfl
@[go_sem] theorem foT_74_1 : foT Try.prog 74 1 = some (1, 3) := by kernel_rfl
@[go_sem] theorem szT_76 : szT Try.prog 76 = some 3 := by kernel_rfl
@[go_sem] theorem byT_76 : byT Try.prog 76 = some 24 := by kernel_rfl
@[go_sem] theorem agT_76 : agT Try.prog 76 = some true := by kernel_rfl
@[go_sem] theorem zc_76 : zc Try.prog 76 = some [D.v (Value.int IntKind.i64 (0)), D.v (Value.int IntKind.i64 (0)), D.v (Value.int IntKind.i64 (0))] := by kernel_rfl
@[go_sem] theorem zD_76 : zD Try.prog 76 = some (D.agg [D.v (Value.int IntKind.i64 (0)), D.v (Value.int IntKind.i64 (0)), D.v (Value.int IntKind.i64 (0))]) := by kernel_rfl
@[go_sem] theorem ckNT_76 : ckNT Try.prog 76 = some [0, 0, 0] := by kernel_rfl
@[go_sem] theorem plT_76 : plT Try.prog 76 = some [(0, 2), (2, 1)] := by kernel_rfl
@[go_sem] theorem foT_76_0 : foT Try.prog 76 0 = some (0, 74) := by kernel_rfl
@[go_sem] theorem foT_76_1 : foT Try.prog 76 1 = some (2, 27) := by kernel_rfl
@[go_sem] theorem szT_81 : szT Try.prog 81 = some 1 := by kernel_rfl
@[go_sem] theorem byT_81 : byT Try.prog 81 = some 8 := by kernel_rfl
@[go_sem] theorem agT_81 : agT Try.prog 81 = some false := by kernel_rfl
@[go_sem] theorem zc_81 : zc Try.prog 81 = some [D.v Value.nilFunc] := by kernel_rfl
@[go_sem] theorem zD_81 : zD Try.prog 81 = some (D.v Value.nilFunc) := by kernel_rfl
@[go_sem] theorem szT_88 : szT Try.prog 88 = some 1 := by kernel_rfl
@[go_sem] theorem byT_88 : byT Try.prog 88 = some 8 := by kernel_rfl
@[go_sem] theorem agT_88 : agT Try.prog 88 = some false := by kernel_rfl
@[go_sem] theorem zc_88 : zc Try.prog 88 = some [D.v (Value.map none)] := by kernel_rfl
@[go_sem] theorem zD_88 : zD Try.prog 88 = some (D.v (Value.map none)) := by kernel_rfl
@[go_sem] theorem kvT_88 : kvT Try.prog 88 = some (31, 22) := by kernel_rfl
@[go_sem] theorem szT_92 : szT Try.prog 92 = some 1 := by kernel_rfl
@[go_sem] theorem byT_92 : byT Try.prog 92 = some 8 := by kernel_rfl
@[go_sem] theorem agT_92 : agT Try.prog 92 = some false := by kernel_rfl
@[go_sem] theorem zc_92 : zc Try.prog 92 = some [D.v (Value.int IntKind.u64 (0))] := by kernel_rfl
@[go_sem] theorem zD_92 : zD Try.prog 92 = some (D.v (Value.int IntKind.u64 (0))) := by kernel_rfl
@[go_sem] theorem inT_92 : inT Try.prog 92 = some IntKind.u64 := by kernel_rfl
@[go_sem] theorem bkT_92 : bkT Try.prog 92 = some 0 := by kernel_rfl
@[go_sem] theorem szT_96 : szT Try.prog 96 = some 1 := by kernel_rfl
@[go_sem] theorem byT_96 : byT Try.prog 96 = some 8 := by kernel_rfl
@[go_sem] theorem agT_96 : agT Try.prog 96 = some false := by kernel_rfl
@[go_sem] theorem zc_96 : zc Try.prog 96 = some [D.v (Value.map none)] := by kernel_rfl
@[go_sem] theorem zD_96 : zD Try.prog 96 = some (D.v (Value.map none)) := by kernel_rfl
@[go_sem] theorem kvT_96 : kvT Try.prog 96 = some (74, 99) := by kernel_rfl
@[go_sem] theorem szT_99 : szT Try.prog 99 = some 2 := by kernel_rfl
@[go_sem] theorem byT_99 : byT Try.prog 99 = some 16 := by kernel_rfl
@[go_sem] theorem agT_99 : agT Try.prog 99 = some true := by kernel_rfl
@[go_sem] theorem zc_99 : zc Try.prog 99 = some [D.v (Value.int IntKind.i64 (0)), D.v (Value.bool false)] := by kernel_rfl
@[go_sem] theorem zD_99 : zD Try.prog 99 = some (D.agg [D.v (Value.int IntKind.i64 (0)), D.v (Value.bool false)]) := by kernel_rfl
@[go_sem] theorem ckT_99 : ckT Try.prog 99 = some [0, 1] := by kernel_rfl
@[go_sem] theorem ckNT_99 : ckNT Try.prog 99 = some [0, 1] := by kernel_rfl
@[go_sem] theorem plT_99 : plT Try.prog 99 = some [(0, 1), (1, 1)] := by kernel_rfl
@[go_sem] theorem foT_99_0 : foT Try.prog 99 0 = some (0, 3) := by kernel_rfl
@[go_sem] theorem foT_99_1 : foT Try.prog 99 1 = some (1, 4) := by kernel_rfl
@[go_sem] theorem szT_115 : szT Try.prog 115 = some 1 := by kernel_rfl
@[go_sem] theorem byT_115 : byT Try.prog 115 = some 4 := by kernel_rfl
@[go_sem] theorem agT_115 : agT Try.prog 115 = some false := by kernel_rfl
@[go_sem] theorem zc_115 : zc Try.prog 115 = some [D.v (Value.int IntKind.u32 (0))] := by kernel_rfl
@[go_sem] theorem zD_115 : zD Try.prog 115 = some (D.v (Value.int IntKind.u32 (0))) := by kernel_rfl
@[go_sem] theorem inT_115 : inT Try.prog 115 = some IntKind.u32 := by kernel_rfl
@[go_sem] theorem bkT_115 : bkT Try.prog 115 = some 0 := by kernel_rfl
@[go_sem] theorem szT_117 : szT Try.prog 117 = some 1 := by kernel_rfl
@[go_sem] theorem byT_117 : byT Try.prog 117 = some 8 := by kernel_rfl
@[go_sem] theorem agT_117 : agT Try.prog 117 = some false := by kernel_rfl
@[go_sem] theorem zc_117 : zc Try.prog 117 = some [D.v (Value.int IntKind.u64 (0))] := by kernel_rfl
@[go_sem] theorem zD_117 : zD Try.prog 117 = some (D.v (Value.int IntKind.u64 (0))) := by kernel_rfl
@[go_sem] theorem inT_117 : inT Try.prog 117 = some IntKind.u64 := by kernel_rfl
@[go_sem] theorem bkT_117 : bkT Try.prog 117 = some 0 := by kernel_rfl
@[go_sem] theorem szT_118 : szT Try.prog 118 = some 1 := by kernel_rfl
@[go_sem] theorem byT_118 : byT Try.prog 118 = some 8 := by kernel_rfl
@[go_sem] theorem agT_118 : agT Try.prog 118 = some false := by kernel_rfl
@[go_sem] theorem zc_118 : zc Try.prog 118 = some [D.v (Value.int IntKind.u64 (0))] := by kernel_rfl
@[go_sem] theorem zD_118 : zD Try.prog 118 = some (D.v (Value.int IntKind.u64 (0))) := by kernel_rfl
@[go_sem] theorem inT_118 : inT Try.prog 118 = some IntKind.u64 := by kernel_rfl
@[go_sem] theorem bkT_118 : bkT Try.prog 118 = some 0 := by kernel_rfl
attribute [go_sem] Try.results3
attribute [go_sem] Try.results4
attribute [go_sem] Try.results5
attribute [go_sem] Try.results6
attribute [go_sem] Try.results7
attribute [go_sem] Try.results8
attribute [go_sem] Try.results9
attribute [go_sem] Try.results10
attribute [go_sem] Try.results11
attribute [go_sem] Try.results12
attribute [go_sem] Try.results13
attribute [go_sem] Try.results14
attribute [go_sem] Try.results15
attribute [go_sem] Try.results16
attribute [go_sem] Try.results17
attribute [go_sem] Try.results18
attribute [go_sem] Try.results19
attribute [go_sem] Try.results20
attribute [go_sem] Try.results21
attribute [go_sem] Try.results22
attribute [go_sem] Try.results23
attribute [go_sem] Try.results24
attribute [go_sem] Try.results25
attribute [go_sem] Try.results26
attribute [go_sem] Try.results27
attribute [go_sem] Try.results28
attribute [go_sem] Try.results29
attribute [go_sem] Try.results30
attribute [go_sem] Try.results31
attribute [go_sem] Try.results32
attribute [go_sem] Try.results33
attribute [go_sem] Try.results34
attribute [go_sem] Try.results35
attribute [go_sem] Try.results36
attribute [go_sem] Try.results37
attribute [go_sem] Try.results38
attribute [go_sem] Try.results39
attribute [go_sem] Try.results40
attribute [go_sem] Try.results41
attribute [go_sem] Try.results42
attribute [go_sem] Try.results43
attribute [go_sem] Try.results44
attribute [go_sem] Try.results45
attribute [go_sem] Try.results46
attribute [go_sem] Try.results47
attribute [go_sem] Try.results48
attribute [go_sem] Try.results49
attribute [go_sem] Try.results50
attribute [go_sem] Try.results51
attribute [go_sem] Try.results52
attribute [go_sem] Try.results53
attribute [go_sem] Try.results54
attribute [go_sem] Try.results55
attribute [go_sem] Try.results56
attribute [go_sem] Try.results57
attribute [go_sem] Try.results58
attribute [go_sem] Try.results59
attribute [go_sem] Try.results60
attribute [go_sem] Try.results61
attribute [go_sem] Try.results62
attribute [go_sem] Try.results63
attribute [go_sem] Try.results64
attribute [go_sem] Try.results66
attribute [go_sem] Try.results67
attribute [go_sem] Try.results68
attribute [go_sem] Try.results69
attribute [go_sem] Try.results70
attribute [go_sem] Try.results71
attribute [go_sem] Try.results72
attribute [go_sem] Try.results73
attribute [go_sem] Try.results74
attribute [go_sem] Try.results75
attribute [go_sem] Try.results76
attribute [go_sem] Try.results77
attribute [go_sem] Try.results79
attribute [go_sem] Try.results80
attribute [go_sem] Try.results89
attribute [go_sem] Try.results90
attribute [go_sem] Try.results92
attribute [go_sem] Try.results93
end Go.Proofs.R1

/- Contracts of small functions. -/
set_option linter.unusedVariables false
set_option linter.unusedSimpArgs false
set_option maxRecDepth 8000
namespace Go.Proofs.R1
open Go Go.Abs

abbrev St := Int × Int × Int
def stD (s : St) : List D := [i64 s.1, i64 s.2.1, i64 s.2.2]

def ordI (a b : Int) : Int := if a < b then -1 else if b < a then 1 else 0
def orderC : Con where
  α := Int × Int
  kinds := [false, false]
  args := fun a => [.d (i64 a.1), .d (i64 a.2)]
  pre := fun a => True
  post := fun a r => r = ⟨[.d (i64 (ordI a.1 a.2))], []⟩
  clean := true
theorem order_ok : CallOk Try.prog 74 orderC := by
  refine ok_of_body' 11 2 Try.func74 rfl (by decide) Try.ntmps74 (by intro a h; exact ⟨rfl, rfl⟩) (by decide) (by rintro _ a r _ rfl; rfl) ?_
  rintro ⟨x, n⟩ hn
  simp only [orderC] at hn ⊢
  simp only [initE, initMm, List.length_cons, List.length_nil, Nat.reduceAdd]
  repeat' (first
    | (with_reducible refine aw_seq ?_)
    | (with_reducible refine kont_in ?_; simp only [go_sem, reduceIte, Nat.reduceLT, Nat.reduceEqDiff, Nat.reduceAdd, Nat.reduceMul, Nat.reduceSub, Nat.reduceLeDiff, reduceCtorEq, Try.results74])
    | (with_reducible refine dKont_in ?_; simp only [go_sem, reduceIte, Nat.reduceLT, Nat.reduceEqDiff, Nat.reduceAdd, Nat.reduceMul, Nat.reduceSub, Nat.reduceLeDiff, reduceCtorEq, Try.results74])
    | (with_reducible refine aw_drw (by kernel_rfl) kOk_nil kDet_nil ?_; simp only [go_sem, reduceIte, Nat.reduceLT, Nat.reduceEqDiff, Nat.reduceAdd, Nat.reduceMul, Nat.reduceSub, Nat.reduceLeDiff, reduceCtorEq, Try.results74])
    | (with_reducible refine aw_reg kOk_nil ?_; simp only [go_sem, reduceIte, Nat.reduceLT, Nat.reduceEqDiff, Nat.reduceAdd, Nat.reduceMul, Nat.reduceSub, Nat.reduceLeDiff, reduceCtorEq, Try.results74])
    | (with_reducible refine aw_if ?_; simp only [go_sem, reduceIte, Nat.reduceLT, Nat.reduceEqDiff, Nat.reduceAdd, Nat.reduceMul, Nat.reduceSub, Nat.reduceLeDiff, reduceCtorEq, Try.results74])
    | (with_reducible refine aw_block ?_)
    | (with_reducible refine aw_ret ?_; (try simp only [thenQ, blockQ]); refine aw_ret' ?_; simp only [go_sem, reduceIte, Nat.reduceLT, Nat.reduceEqDiff, Nat.reduceAdd, Nat.reduceMul, Nat.reduceSub, Nat.reduceLeDiff, reduceCtorEq, Try.results74])
    | (with_reducible refine aw_exit ?_; simp only [thenQ, blockQ, reduceIte, Nat.reduceEqDiff])
    | (with_reducible refine aw_skip ?_; simp only [thenQ, blockQ])
    | (with_reducible refine gate_intro (fun h => ?_) (fun h => ?_) <;> simp only [h, go_sem, reduceIte, Nat.reduceLT, Nat.reduceEqDiff, Nat.reduceAdd, Nat.reduceMul, Nat.reduceSub, Nat.reduceLeDiff, reduceCtorEq, Try.results74] <;> (try simp only [decide_eq_true_eq, decide_eq_false_iff_not, Bool.not_true] at h))
    | (with_reducible refine chk_in (by kernel_rfl) ?_)
    | (with_reducible refine And.intro (And.intro (by omega) (by omega)) ?_)
    | (with_reducible refine And.intro (by omega) ?_)
    | (rw [get_in]; rotate_left; omega; simp only [go_sem, reduceIte, Nat.reduceLT, Nat.reduceEqDiff, Nat.reduceAdd, Nat.reduceMul, Nat.reduceSub, Nat.reduceLeDiff, reduceCtorEq, Try.results74])
    | fail)
  all_goals (simp only [Res.mk.injEq, List.cons.injEq, RD.d.injEq, D.v.injEq, Value.int.injEq, true_and, and_true]; unfold ordI; (repeat' split) <;> omega)

def nanC : Con where
  α := Int
  kinds := [false]
  args := fun a => [.d (i64 a)]
  pre := fun a => True
  post := fun a r => r = ⟨[.d (bl false)], []⟩
  clean := true
theorem nan_ok : CallOk Try.prog 75 nanC := by
  refine ok_of_body' 6 1 Try.func75 rfl (by decide) Try.ntmps75 (by intro a h; exact ⟨rfl, rfl⟩) (by decide) (by rintro _ a r _ rfl; rfl) ?_
  rintro (x : Int) hn
  simp only [nanC] at hn ⊢
  simp only [initE, initMm, List.length_cons, List.length_nil, Nat.reduceAdd]
  repeat' (first
    | (with_reducible refine aw_seq ?_)
    | (with_reducible refine kont_in ?_; simp only [go_sem, reduceIte, Nat.reduceLT, Nat.reduceEqDiff, Nat.reduceAdd, Nat.reduceMul, Nat.reduceSub, Nat.reduceLeDiff, reduceCtorEq, Try.results75])
    | (with_reducible refine dKont_in ?_; simp only [go_sem, reduceIte, Nat.reduceLT, Nat.reduceEqDiff, Nat.reduceAdd, Nat.reduceMul, Nat.reduceSub, Nat.reduceLeDiff, reduceCtorEq, Try.results75])
    | (with_reducible refine aw_drw (by kernel_rfl) kOk_nil kDet_nil ?_; simp only [go_sem, reduceIte, Nat.reduceLT, Nat.reduceEqDiff, Nat.reduceAdd, Nat.reduceMul, Nat.reduceSub, Nat.reduceLeDiff, reduceCtorEq, Try.results75])
    | (with_reducible refine aw_reg kOk_nil ?_; simp only [go_sem, reduceIte, Nat.reduceLT, Nat.reduceEqDiff, Nat.reduceAdd, Nat.reduceMul, Nat.reduceSub, Nat.reduceLeDiff, reduceCtorEq, Try.results75])
    | (with_reducible refine aw_if ?_; simp only [go_sem, reduceIte, Nat.reduceLT, Nat.reduceEqDiff, Nat.reduceAdd, Nat.reduceMul, Nat.reduceSub, Nat.reduceLeDiff, reduceCtorEq, Try.results75])
    | (with_reducible refine aw_block ?_)
    | (with_reducible refine aw_ret ?_; (try simp only [thenQ, blockQ]); refine aw_ret' ?_; simp only [go_sem, reduceIte, Nat.reduceLT, Nat.reduceEqDiff, Nat.reduceAdd, Nat.reduceMul, Nat.reduceSub, Nat.reduceLeDiff, reduceCtorEq, Try.results75])
    | (with_reducible refine aw_exit ?_; simp only [thenQ, blockQ, reduceIte, Nat.reduceEqDiff])
    | (with_reducible refine aw_skip ?_; simp only [thenQ, blockQ])
    | (with_reducible refine gate_intro (fun h => ?_) (fun h => ?_) <;> simp only [h, go_sem, reduceIte, Nat.reduceLT, Nat.reduceEqDiff, Nat.reduceAdd, Nat.reduceMul, Nat.reduceSub, Nat.reduceLeDiff, reduceCtorEq, Try.results75] <;> (try simp only [decide_eq_true_eq, decide_eq_false_iff_not, Bool.not_true] at h))
    | (with_reducible refine chk_in (by kernel_rfl) ?_)
    | (with_reducible refine And.intro (And.intro (by omega) (by omega)) ?_)
    | (with_reducible refine And.intro (by omega) ?_)
    | (rw [get_in]; rotate_left; omega; simp only [go_sem, reduceIte, Nat.reduceLT, Nat.reduceEqDiff, Nat.reduceAdd, Nat.reduceMul, Nat.reduceSub, Nat.reduceLeDiff, reduceCtorEq, Try.results75])
    | fail)
  all_goals simp

def valS (s : St) : Bool := decide (0 ≤ s.1) && decide (s.1 ≤ 1000000) && decide (0 ≤ s.2.1) && decide (s.2.1 ≤ 99) && decide (0 ≤ s.2.2) && decide (s.2.2 ≤ 9999)
def validC : Con where
  α := St
  kinds := [false]
  args := fun a => [.d (.agg (stD a))]
  pre := fun a => True
  post := fun a r => r = ⟨[.d (bl (valS a))], []⟩
  clean := true
theorem valid_ok : CallOk Try.prog 77 validC := by
  refine ok_of_body' 31 1 Try.func77 rfl (by decide) Try.ntmps77 (by intro a h; exact ⟨rfl, rfl⟩) (by decide) (by rintro _ a r _ rfl; rfl) ?_
  rintro ⟨a, b, c⟩ hn
  simp only [validC, stD] at hn ⊢
  simp only [initE, initMm, List.length_cons, List.length_nil, Nat.reduceAdd]
  repeat' (first
    | (with_reducible refine aw_seq ?_)
    | (with_reducible refine kont_in ?_; simp only [go_sem, reduceIte, Nat.reduceLT, Nat.reduceEqDiff, Nat.reduceAdd, Nat.reduceMul, Nat.reduceSub, Nat.reduceLeDiff, reduceCtorEq, Try.results77])
    | (with_reducible refine dKont_in ?_; simp only [go_sem, reduceIte, Nat.reduceLT, Nat.reduceEqDiff, Nat.reduceAdd, Nat.reduceMul, Nat.reduceSub, Nat.reduceLeDiff, reduceCtorEq, Try.results77])
    | (with_reducible refine aw_drw (by kernel_rfl) kOk_nil kDet_nil ?_; simp only [go_sem, reduceIte, Nat.reduceLT, Nat.reduceEqDiff, Nat.reduceAdd, Nat.reduceMul, Nat.reduceSub, Nat.reduceLeDiff, reduceCtorEq, Try.results77])
    | (with_reducible refine aw_reg kOk_nil ?_; simp only [go_sem, reduceIte, Nat.reduceLT, Nat.reduceEqDiff, Nat.reduceAdd, Nat.reduceMul, Nat.reduceSub, Nat.reduceLeDiff, reduceCtorEq, Try.results77])
    | (with_reducible refine aw_if ?_; simp only [go_sem, reduceIte, Nat.reduceLT, Nat.reduceEqDiff, Nat.reduceAdd, Nat.reduceMul, Nat.reduceSub, Nat.reduceLeDiff, reduceCtorEq, Try.results77])
    | (with_reducible refine aw_block ?_)
    | (with_reducible refine aw_ret ?_; (try simp only [thenQ, blockQ]); refine aw_ret' ?_; simp only [go_sem, reduceIte, Nat.reduceLT, Nat.reduceEqDiff, Nat.reduceAdd, Nat.reduceMul, Nat.reduceSub, Nat.reduceLeDiff, reduceCtorEq, Try.results77])
    | (with_reducible refine aw_exit ?_; simp only [thenQ, blockQ, reduceIte, Nat.reduceEqDiff])
    | (with_reducible refine aw_skip ?_; simp only [thenQ, blockQ])
    | (with_reducible refine gate_intro (fun h => ?_) (fun h => ?_) <;> simp only [h, go_sem, reduceIte, Nat.reduceLT, Nat.reduceEqDiff, Nat.reduceAdd, Nat.reduceMul, Nat.reduceSub, Nat.reduceLeDiff, reduceCtorEq, Try.results77] <;> (try simp only [decide_eq_true_eq, decide_eq_false_iff_not, Bool.not_true] at h))
    | (with_reducible refine chk_in (by kernel_rfl) ?_)
    | (with_reducible refine And.intro (And.intro (by omega) (by omega)) ?_)
    | (with_reducible refine And.intro (by omega) ?_)
    | (rw [get_in]; rotate_left; omega; simp only [go_sem, reduceIte, Nat.reduceLT, Nat.reduceEqDiff, Nat.reduceAdd, Nat.reduceMul, Nat.reduceSub, Nat.reduceLeDiff, reduceCtorEq, Try.results77])
    | fail)
  all_goals (simp only [valS, ge_iff_le] at *; simp [*])
theorem rvalid_ok : CallOk Try.prog 72 validC := by
  refine ok_of_body' 31 1 Try.func72 rfl (by decide) Try.ntmps72 (by intro a h; exact ⟨rfl, rfl⟩) (by decide) (by rintro _ a r _ rfl; rfl) ?_
  rintro ⟨a, b, c⟩ hn
  simp only [validC, stD] at hn ⊢
  simp only [initE, initMm, List.length_cons, List.length_nil, Nat.reduceAdd]
  repeat' (first
    | (with_reducible refine aw_seq ?_)
    | (with_reducible refine kont_in ?_; simp only [go_sem, reduceIte, Nat.reduceLT, Nat.reduceEqDiff, Nat.reduceAdd, Nat.reduceMul, Nat.reduceSub, Nat.reduceLeDiff, reduceCtorEq, Try.results72])
    | (with_reducible refine dKont_in ?_; simp only [go_sem, reduceIte, Nat.reduceLT, Nat.reduceEqDiff, Nat.reduceAdd, Nat.reduceMul, Nat.reduceSub, Nat.reduceLeDiff, reduceCtorEq, Try.results72])
    | (with_reducible refine aw_drw (by kernel_rfl) kOk_nil kDet_nil ?_; simp only [go_sem, reduceIte, Nat.reduceLT, Nat.reduceEqDiff, Nat.reduceAdd, Nat.reduceMul, Nat.reduceSub, Nat.reduceLeDiff, reduceCtorEq, Try.results72])
    | (with_reducible refine aw_reg kOk_nil ?_; simp only [go_sem, reduceIte, Nat.reduceLT, Nat.reduceEqDiff, Nat.reduceAdd, Nat.reduceMul, Nat.reduceSub, Nat.reduceLeDiff, reduceCtorEq, Try.results72])
    | (with_reducible refine aw_if ?_; simp only [go_sem, reduceIte, Nat.reduceLT, Nat.reduceEqDiff, Nat.reduceAdd, Nat.reduceMul, Nat.reduceSub, Nat.reduceLeDiff, reduceCtorEq, Try.results72])
    | (with_reducible refine aw_block ?_)
    | (with_reducible refine aw_ret ?_; (try simp only [thenQ, blockQ]); refine aw_ret' ?_; simp only [go_sem, reduceIte, Nat.reduceLT, Nat.reduceEqDiff, Nat.reduceAdd, Nat.reduceMul, Nat.reduceSub, Nat.reduceLeDiff, reduceCtorEq, Try.results72])
    | (with_reducible refine aw_exit ?_; simp only [thenQ, blockQ, reduceIte, Nat.reduceEqDiff])
    | (with_reducible refine aw_skip ?_; simp only [thenQ, blockQ])
    | (with_reducible refine gate_intro (fun h => ?_) (fun h => ?_) <;> simp only [h, go_sem, reduceIte, Nat.reduceLT, Nat.reduceEqDiff, Nat.reduceAdd, Nat.reduceMul, Nat.reduceSub, Nat.reduceLeDiff, reduceCtorEq, Try.results72] <;> (try simp only [decide_eq_true_eq, decide_eq_false_iff_not, Bool.not_true] at h))
    | (with_reducible refine chk_in (by kernel_rfl) ?_)
    | (with_reducible refine And.intro (And.intro (by omega) (by omega)) ?_)
    | (with_reducible refine And.intro (by omega) ?_)
    | (rw [get_in]; rotate_left; omega; simp only [go_sem, reduceIte, Nat.reduceLT, Nat.reduceEqDiff, Nat.reduceAdd, Nat.reduceMul, Nat.reduceSub, Nat.reduceLeDiff, reduceCtorEq, Try.results72])
    | fail)
  all_goals (simp only [valS, ge_iff_le] at *; simp [*])

theorem nan_call {K : Kt} (hk : K 75 = some nanC) {np fid : Nat} {M : Mem} {nx : D → Mem → Prop} {x : Int} (hf : M fid = none) (hn : nx (bl false) M) : semCall K np 75 [i64 x] M fid nx :=
  call_fn hk rfl rfl (fun _ _ h => h) x rfl trivial hf hn

theorem cmp_ok : CallOk Try.prog 64 orderC := by
  refine ok_of_body' 20 2 Try.func64 rfl (by decide) Try.ntmps64 (by intro a h; exact ⟨rfl, rfl⟩) (by decide) (by rintro _ a r _ rfl; rfl) ?_
  rintro ⟨x, n⟩ hn
  simp only [orderC] at hn ⊢
  simp only [initE, initMm, List.length_cons, List.length_nil, Nat.reduceAdd]
  have hK : KOk Try.prog (kOf [(75, nanC)]) := kOk_cons nan_ok kOk_nil
  repeat' (first
    | (with_reducible refine aw_seq ?_)
    | (with_reducible refine kont_in ?_; simp only [go_sem, reduceIte, Nat.reduceLT, Nat.reduceEqDiff, Nat.reduceAdd, Nat.reduceMul, Nat.reduceSub, Nat.reduceLeDiff, reduceCtorEq, Try.results64])
    | (with_reducible refine dKont_in ?_; simp only [go_sem, reduceIte, Nat.reduceLT, Nat.reduceEqDiff, Nat.reduceAdd, Nat.reduceMul, Nat.reduceSub, Nat.reduceLeDiff, reduceCtorEq, Try.results64])
    | (with_reducible refine aw_drw (by kernel_rfl) hK kDet_nil ?_; simp only [go_sem, reduceIte, Nat.reduceLT, Nat.reduceEqDiff, Nat.reduceAdd, Nat.reduceMul, Nat.reduceSub, Nat.reduceLeDiff, reduceCtorEq, Try.results64])
    | (with_reducible refine aw_reg hK ?_; simp only [go_sem, reduceIte, Nat.reduceLT, Nat.reduceEqDiff, Nat.reduceAdd, Nat.reduceMul, Nat.reduceSub, Nat.reduceLeDiff, reduceCtorEq, Try.results64])
    | (with_reducible refine aw_if ?_; simp only [go_sem, reduceIte, Nat.reduceLT, Nat.reduceEqDiff, Nat.reduceAdd, Nat.reduceMul, Nat.reduceSub, Nat.reduceLeDiff, reduceCtorEq, Try.results64])
    | (with_reducible refine aw_block ?_)
    | (with_reducible refine aw_ret ?_; (try simp only [thenQ, blockQ]); refine aw_ret' ?_; simp only [go_sem, reduceIte, Nat.reduceLT, Nat.reduceEqDiff, Nat.reduceAdd, Nat.reduceMul, Nat.reduceSub, Nat.reduceLeDiff, reduceCtorEq, Try.results64])
    | (with_reducible refine aw_exit ?_; simp only [thenQ, blockQ, reduceIte, Nat.reduceEqDiff])
    | (with_reducible refine aw_skip ?_; simp only [thenQ, blockQ])
    | (with_reducible refine gate_intro (fun h => ?_) (fun h => ?_) <;> simp only [h, go_sem, reduceIte, Nat.reduceLT, Nat.reduceEqDiff, Nat.reduceAdd, Nat.reduceMul, Nat.reduceSub, Nat.reduceLeDiff, reduceCtorEq, Try.results64] <;> (try simp only [decide_eq_true_eq, decide_eq_false_iff_not, Bool.not_true] at h))
    | (with_reducible refine chk_in (by kernel_rfl) ?_)
    | (with_reducible refine And.intro (And.intro (by omega) (by omega)) ?_)
    | (with_reducible refine And.intro (by omega) ?_)
    | (refine nan_call rfl rfl ?_)
    | (rw [get_in]; rotate_left; omega; simp only [go_sem, reduceIte, Nat.reduceLT, Nat.reduceEqDiff, Nat.reduceAdd, Nat.reduceMul, Nat.reduceSub, Nat.reduceLeDiff, reduceCtorEq, Try.results64])
    | fail)
  all_goals (simp only [Res.mk.injEq, List.cons.injEq, RD.d.injEq, D.v.injEq, Value.int.injEq, true_and, and_true]; unfold ordI; (repeat' split) <;> omega)
theorem cmp_call {K : Kt} (hk : K 64 = some orderC) {np fid : Nat} {M : Mem} {nx : D → Mem → Prop} {x y : Int} (hf : M fid = none) (hn : nx (i64 (ordI x y)) M) : semCall K np 64 [i64 x, i64 y] M fid nx :=
  call_fn hk rfl rfl (fun _ _ h => h) (x, y) rfl trivial hf hn
theorem order_call {K : Kt} (hk : K 74 = some orderC) {np fid : Nat} {M : Mem} {nx : D → Mem → Prop} {x y : Int} (hf : M fid = none) (hn : nx (i64 (ordI x y)) M) : semCall K np 74 [i64 x, i64 y] M fid nx :=
  call_fn hk rfl rfl (fun _ _ h => h) (x, y) rfl trivial hf hn

/-- Stamps in order. -/
def cmpS (s t : St) : Int := if ordI s.1 t.1 ≠ 0 then ordI s.1 t.1 else if ordI s.2.1 t.2.1 ≠ 0 then ordI s.2.1 t.2.1 else ordI s.2.2 t.2.2
def compareC : Con where
  α := St × St
  kinds := [false, false]
  args := fun a => [.d (.agg (stD a.1)), .d (.agg (stD a.2))]
  pre := fun a => True
  post := fun a r => r = ⟨[.d (i64 (cmpS a.1 a.2))], []⟩
  clean := true
theorem rcompare_ok : CallOk Try.prog 62 compareC := by
  refine ok_of_body' 26 2 Try.func62 rfl (by decide) Try.ntmps62 (by intro a h; exact ⟨rfl, rfl⟩) (by decide) (by rintro _ a r _ rfl; rfl) ?_
  rintro ⟨⟨a, b, c⟩, ⟨d, e, f⟩⟩ hn
  simp only [compareC, stD] at hn ⊢
  simp only [initE, initMm, List.length_cons, List.length_nil, Nat.reduceAdd]
  have hK : KOk Try.prog (kOf [(74, orderC)]) := kOk_cons order_ok kOk_nil
  repeat' (first
    | (with_reducible refine aw_seq ?_)
    | (with_reducible refine kont_in ?_; simp only [go_sem, reduceIte, Nat.reduceLT, Nat.reduceEqDiff, Nat.reduceAdd, Nat.reduceMul, Nat.reduceSub, Nat.reduceLeDiff, reduceCtorEq, Try.results62])
    | (with_reducible refine dKont_in ?_; simp only [go_sem, reduceIte, Nat.reduceLT, Nat.reduceEqDiff, Nat.reduceAdd, Nat.reduceMul, Nat.reduceSub, Nat.reduceLeDiff, reduceCtorEq, Try.results62])
    | (with_reducible refine aw_drw (by kernel_rfl) hK kDet_nil ?_; simp only [go_sem, reduceIte, Nat.reduceLT, Nat.reduceEqDiff, Nat.reduceAdd, Nat.reduceMul, Nat.reduceSub, Nat.reduceLeDiff, reduceCtorEq, Try.results62])
    | (with_reducible refine aw_reg hK ?_; simp only [go_sem, reduceIte, Nat.reduceLT, Nat.reduceEqDiff, Nat.reduceAdd, Nat.reduceMul, Nat.reduceSub, Nat.reduceLeDiff, reduceCtorEq, Try.results62])
    | (with_reducible refine aw_if ?_; simp only [go_sem, reduceIte, Nat.reduceLT, Nat.reduceEqDiff, Nat.reduceAdd, Nat.reduceMul, Nat.reduceSub, Nat.reduceLeDiff, reduceCtorEq, Try.results62])
    | (with_reducible refine aw_block ?_)
    | (with_reducible refine aw_ret ?_; (try simp only [thenQ, blockQ]); refine aw_ret' ?_; simp only [go_sem, reduceIte, Nat.reduceLT, Nat.reduceEqDiff, Nat.reduceAdd, Nat.reduceMul, Nat.reduceSub, Nat.reduceLeDiff, reduceCtorEq, Try.results62])
    | (with_reducible refine aw_exit ?_; simp only [thenQ, blockQ, reduceIte, Nat.reduceEqDiff])
    | (with_reducible refine aw_skip ?_; simp only [thenQ, blockQ])
    | (with_reducible refine gate_intro (fun h => ?_) (fun h => ?_) <;> simp only [h, go_sem, reduceIte, Nat.reduceLT, Nat.reduceEqDiff, Nat.reduceAdd, Nat.reduceMul, Nat.reduceSub, Nat.reduceLeDiff, reduceCtorEq, Try.results62] <;> (try simp only [decide_eq_true_eq, decide_eq_false_iff_not, Bool.not_true] at h))
    | (with_reducible refine chk_in (by kernel_rfl) ?_)
    | (with_reducible refine And.intro (And.intro (by omega) (by omega)) ?_)
    | (with_reducible refine And.intro (by omega) ?_)
    | (refine order_call rfl rfl ?_)
    | (rw [get_in]; rotate_left; omega; simp only [go_sem, reduceIte, Nat.reduceLT, Nat.reduceEqDiff, Nat.reduceAdd, Nat.reduceMul, Nat.reduceSub, Nat.reduceLeDiff, reduceCtorEq, Try.results62])
    | fail)
  all_goals (simp only [beq_iff_eq, beq_eq_false_iff_ne, ne_eq] at *; first | (exfalso; omega) | (simp [cmpS, *]; done))
end Go.Proofs.R1

/- Contracts of small functions: cmp.Or, stamp.Compare. -/
set_option linter.unusedVariables false
set_option linter.unusedSimpArgs false
set_option maxRecDepth 8000
namespace Go.Proofs.R1
open Go Go.Abs
variable {α : Type}

def slI (l : List Int) : D := .sl 1 (l.map fun x => [i64 x])
def firstNZ : List Int → Int
  | [] => 0
  | x :: l => if x ≠ 0 then x else firstNZ l
def orC : Con where
  α := List Int
  kinds := [false]
  args := fun a => [.d (slI a)]
  pre := fun a => a.length ≤ 9223372036854775807
  post := fun a r => r = ⟨[.d (i64 (firstNZ a))], []⟩
  clean := true
theorem wr64 {n : Int} (h1 : -9223372036854775808 ≤ n) (h2 : n ≤ 9223372036854775807) : IntKind.i64.wrap n = n := by
  rw [IntKind.wrap_i64]; omega

theorem drop_at {l : List α} {i : Nat} {x : α} (h : l[i]? = some x) : l.drop i = x :: l.drop (i + 1) := by
  obtain ⟨hl, rfl⟩ := List.getElem?_eq_some_iff.1 h
  exact List.drop_eq_getElem_cons hl

theorem or_ok : CallOk Try.prog 63 orC := by
  refine ok_of_body' 18 1 Try.func63 rfl (by decide) Try.ntmps63 (by intro a h; exact ⟨rfl, rfl⟩) (by decide) (by rintro _ a r _ rfl; rfl) ?_
  rintro (l : List Int) hn
  simp only [orC] at hn
  simp only [orC, slI]
  simp only [initE, initMm, List.length_cons, List.length_nil, Nat.reduceAdd]
  repeat' (first
    | (with_reducible refine aw_seq ?_)
    | (with_reducible refine kont_in ?_; simp only [go_sem, reduceIte, Nat.reduceLT, Nat.reduceEqDiff, Nat.reduceAdd, Nat.reduceMul, Nat.reduceSub, Nat.reduceLeDiff, reduceCtorEq, Try.results63])
    | (with_reducible refine dKont_in ?_; simp only [go_sem, reduceIte, Nat.reduceLT, Nat.reduceEqDiff, Nat.reduceAdd, Nat.reduceMul, Nat.reduceSub, Nat.reduceLeDiff, reduceCtorEq, Try.results63])
    | (with_reducible refine aw_drw (by kernel_rfl) kOk_nil kDet_nil ?_; simp only [go_sem, reduceIte, Nat.reduceLT, Nat.reduceEqDiff, Nat.reduceAdd, Nat.reduceMul, Nat.reduceSub, Nat.reduceLeDiff, reduceCtorEq, Try.results63])
    | (with_reducible refine aw_reg kOk_nil ?_; simp only [go_sem, reduceIte, Nat.reduceLT, Nat.reduceEqDiff, Nat.reduceAdd, Nat.reduceMul, Nat.reduceSub, Nat.reduceLeDiff, reduceCtorEq, Try.results63])
    | (with_reducible refine aw_if ?_; simp only [go_sem, reduceIte, Nat.reduceLT, Nat.reduceEqDiff, Nat.reduceAdd, Nat.reduceMul, Nat.reduceSub, Nat.reduceLeDiff, reduceCtorEq, Try.results63])
    | (with_reducible refine aw_block ?_)
    | (with_reducible refine aw_ret ?_; (try simp only [thenQ, blockQ]); refine aw_ret' ?_; simp only [go_sem, reduceIte, Nat.reduceLT, Nat.reduceEqDiff, Nat.reduceAdd, Nat.reduceMul, Nat.reduceSub, Nat.reduceLeDiff, reduceCtorEq, Try.results63])
    | (with_reducible refine aw_exit ?_; simp only [thenQ, blockQ, reduceIte, Nat.reduceEqDiff])
    | (with_reducible refine aw_skip ?_; simp only [thenQ, blockQ])
    | (with_reducible refine gate_intro (fun h => ?_) (fun h => ?_) <;> simp only [h, go_sem, reduceIte, Nat.reduceLT, Nat.reduceEqDiff, Nat.reduceAdd, Nat.reduceMul, Nat.reduceSub, Nat.reduceLeDiff, reduceCtorEq, Try.results63] <;> (try simp only [decide_eq_true_eq, decide_eq_false_iff_not, Bool.not_true] at h))
    | (with_reducible refine chk_in (by kernel_rfl) ?_)
    | (with_reducible refine And.intro (And.intro (by omega) (by omega)) ?_)
    | (with_reducible refine And.intro (by omega) ?_)
    | (rw [get_in]; rotate_left; omega; simp only [go_sem, reduceIte, Nat.reduceLT, Nat.reduceEqDiff, Nat.reduceAdd, Nat.reduceMul, Nat.reduceSub, Nat.reduceLeDiff, reduceCtorEq, Try.results63])
    | fail)
  refine aw_loop (α := Nat) (fun i => ⟨envOf [(8, i64 i), (7, i64 l.length), (6, slI l), (3, i64 0), (0, slI l)], memOf [], 20⟩) (fun i => i ≤ l.length ∧ firstNZ (l.drop i) = firstNZ l) (fun i => l.length - i) 0 ⟨by omega, rfl⟩ (weak_sub (by simp [envOf, slI])) ?_
  rintro i ⟨hi, hf⟩
  cases hx : l[i]? with
  | none =>
    have hge : l.length ≤ i := by simpa using hx
    have hc : decide ((i : Int) < (l.length : Int)) = false := by simp; omega
    simp only [slI]
    repeat' (first
    | (with_reducible refine aw_seq ?_)
    | (with_reducible refine kont_in ?_; simp only [go_sem, reduceIte, Nat.reduceLT, Nat.reduceEqDiff, Nat.reduceAdd, Nat.reduceMul, Nat.reduceSub, Nat.reduceLeDiff, reduceCtorEq, hc, Try.results63])
    | (with_reducible refine dKont_in ?_; simp only [go_sem, reduceIte, Nat.reduceLT, Nat.reduceEqDiff, Nat.reduceAdd, Nat.reduceMul, Nat.reduceSub, Nat.reduceLeDiff, reduceCtorEq, hc, Try.results63])
    | (with_reducible refine aw_drw (by kernel_rfl) kOk_nil kDet_nil ?_; simp only [go_sem, reduceIte, Nat.reduceLT, Nat.reduceEqDiff, Nat.reduceAdd, Nat.reduceMul, Nat.reduceSub, Nat.reduceLeDiff, reduceCtorEq, hc, Try.results63])
    | (with_reducible refine aw_reg kOk_nil ?_; simp only [go_sem, reduceIte, Nat.reduceLT, Nat.reduceEqDiff, Nat.reduceAdd, Nat.reduceMul, Nat.reduceSub, Nat.reduceLeDiff, reduceCtorEq, hc, Try.results63])
    | (with_reducible refine aw_if ?_; simp only [go_sem, reduceIte, Nat.reduceLT, Nat.reduceEqDiff, Nat.reduceAdd, Nat.reduceMul, Nat.reduceSub, Nat.reduceLeDiff, reduceCtorEq, hc, Try.results63])
    | (with_reducible refine aw_block ?_)
    | (with_reducible refine aw_ret ?_; (try simp only [thenQ, blockQ]); refine aw_ret' ?_; simp only [go_sem, reduceIte, Nat.reduceLT, Nat.reduceEqDiff, Nat.reduceAdd, Nat.reduceMul, Nat.reduceSub, Nat.reduceLeDiff, reduceCtorEq, hc, Try.results63])
    | (with_reducible refine aw_exit ?_; simp only [thenQ, blockQ, reduceIte, Nat.reduceEqDiff])
    | (with_reducible refine aw_skip ?_; simp only [thenQ, blockQ])
    | (with_reducible refine gate_intro (fun h => ?_) (fun h => ?_) <;> simp only [h, go_sem, reduceIte, Nat.reduceLT, Nat.reduceEqDiff, Nat.reduceAdd, Nat.reduceMul, Nat.reduceSub, Nat.reduceLeDiff, reduceCtorEq, hc, Try.results63] <;> (try simp only [decide_eq_true_eq, decide_eq_false_iff_not, Bool.not_true] at h))
    | (with_reducible refine chk_in (by kernel_rfl) ?_)
    | (with_reducible refine And.intro (And.intro (by omega) (by omega)) ?_)
    | (with_reducible refine And.intro (by omega) ?_)
    | (rw [get_in]; rotate_left; omega; simp only [go_sem, reduceIte, Nat.reduceLT, Nat.reduceEqDiff, Nat.reduceAdd, Nat.reduceMul, Nat.reduceSub, Nat.reduceLeDiff, reduceCtorEq, hc, Try.results63])
    | fail)
    rw [← hf, List.drop_eq_nil_of_le hge]; rfl
  | some x =>
    have hlt : i < l.length := by
      rcases Nat.lt_or_ge i l.length with h | h
      · exact h
      · rw [List.getElem?_eq_none h] at hx; cases hx
    have hc : decide ((i : Int) < (l.length : Int)) = true := by simp; omega
    simp only [slI]
    repeat' (first
    | (with_reducible refine aw_seq ?_)
    | (with_reducible refine kont_in ?_; simp only [go_sem, reduceIte, Nat.reduceLT, Nat.reduceEqDiff, Nat.reduceAdd, Nat.reduceMul, Nat.reduceSub, Nat.reduceLeDiff, reduceCtorEq, hc, hx, Try.results63])
    | (with_reducible refine dKont_in ?_; simp only [go_sem, reduceIte, Nat.reduceLT, Nat.reduceEqDiff, Nat.reduceAdd, Nat.reduceMul, Nat.reduceSub, Nat.reduceLeDiff, reduceCtorEq, hc, hx, Try.results63])
    | (with_reducible refine aw_drw (by kernel_rfl) kOk_nil kDet_nil ?_; simp only [go_sem, reduceIte, Nat.reduceLT, Nat.reduceEqDiff, Nat.reduceAdd, Nat.reduceMul, Nat.reduceSub, Nat.reduceLeDiff, reduceCtorEq, hc, hx, Try.results63])
    | (with_reducible refine aw_reg kOk_nil ?_; simp only [go_sem, reduceIte, Nat.reduceLT, Nat.reduceEqDiff, Nat.reduceAdd, Nat.reduceMul, Nat.reduceSub, Nat.reduceLeDiff, reduceCtorEq, hc, hx, Try.results63])
    | (with_reducible refine aw_if ?_; simp only [go_sem, reduceIte, Nat.reduceLT, Nat.reduceEqDiff, Nat.reduceAdd, Nat.reduceMul, Nat.reduceSub, Nat.reduceLeDiff, reduceCtorEq, hc, hx, Try.results63])
    | (with_reducible refine aw_block ?_)
    | (with_reducible refine aw_ret ?_; (try simp only [thenQ, blockQ]); refine aw_ret' ?_; simp only [go_sem, reduceIte, Nat.reduceLT, Nat.reduceEqDiff, Nat.reduceAdd, Nat.reduceMul, Nat.reduceSub, Nat.reduceLeDiff, reduceCtorEq, hc, hx, Try.results63])
    | (with_reducible refine aw_exit ?_; simp only [thenQ, blockQ, reduceIte, Nat.reduceEqDiff])
    | (with_reducible refine aw_skip ?_; simp only [thenQ, blockQ])
    | (with_reducible refine gate_intro (fun h => ?_) (fun h => ?_) <;> simp only [h, go_sem, reduceIte, Nat.reduceLT, Nat.reduceEqDiff, Nat.reduceAdd, Nat.reduceMul, Nat.reduceSub, Nat.reduceLeDiff, reduceCtorEq, hc, hx, Try.results63] <;> (try simp only [decide_eq_true_eq, decide_eq_false_iff_not, Bool.not_true] at h))
    | (with_reducible refine chk_in (by kernel_rfl) ?_)
    | (with_reducible refine And.intro (And.intro (by omega) (by omega)) ?_)
    | (with_reducible refine And.intro (by omega) ?_)
    | (rw [get_in]; rotate_left; omega; simp only [go_sem, reduceIte, Nat.reduceLT, Nat.reduceEqDiff, Nat.reduceAdd, Nat.reduceMul, Nat.reduceSub, Nat.reduceLeDiff, reduceCtorEq, hc, hx, Try.results63])
    | fail)
    · rw [← hf, drop_at hx]; simp at h; simp [firstNZ, h]
    · have hw : IntKind.i64.wrap ((i : Int) + 1) = ((i + 1 : Nat) : Int) := by rw [wr64 (by omega) (by omega)]; rfl
      refine ⟨i + 1, ⟨by omega, ?_⟩, by omega, weak_sub (by simp [envOf, hw])⟩
      rw [← hf, drop_at hx]; simp at h; simp [firstNZ, h]
theorem or_call {K : Kt} (hk : K 63 = some orC) {np fid : Nat} {M : Mem} {nx : D → Mem → Prop} {d : D} {l : List Int} (hd : fz M true 4 d = some (slI l)) (hl : l.length ≤ 9223372036854775807) (hf : M fid = none) (hn : nx (i64 (firstNZ l)) M) : semCall K np 63 [d] M fid nx :=
  call_fn hk rfl rfl (fun _ _ h => h) l (by simp only [argsV, mapO, hd]; rfl) hl hf hn

theorem compare_ok : CallOk Try.prog 71 compareC := by
  refine ok_of_body' 22 2 Try.func71 rfl (by decide) Try.ntmps71 (by intro a h; exact ⟨rfl, rfl⟩) (by decide) (by rintro _ a r _ rfl; rfl) ?_
  rintro ⟨⟨a, b, c⟩, ⟨d, e, f⟩⟩ hn
  simp only [compareC, stD] at hn ⊢
  simp only [initE, initMm, List.length_cons, List.length_nil, Nat.reduceAdd]
  have hK : KOk Try.prog (kOf [(64, orderC), (63, orC)]) := kOk_cons cmp_ok (kOk_cons or_ok kOk_nil)
  have hD : KDet (kOf [(64, orderC), (63, orC)]) := kDet_cons (fun _ _ => ⟨_, rfl, by simp, fun _ h => h⟩) (kDet_cons (fun _ _ => ⟨_, rfl, by simp, fun _ h => h⟩) kDet_nil)
  have s1 : orderC.srt = none := rfl
  have s2 : orC.srt = none := rfl
  have c1 : orderC.clean = true := rfl
  have c2 : orC.clean = true := rfl
  repeat' (first
    | (with_reducible refine aw_seq ?_)
    | (with_reducible refine kont_in ?_; simp only [go_sem, reduceIte, Nat.reduceLT, Nat.reduceEqDiff, Nat.reduceAdd, Nat.reduceMul, Nat.reduceSub, Nat.reduceLeDiff, reduceCtorEq, s1, s2, c1, c2, Try.results71])
    | (with_reducible refine dKont_in ?_; simp only [go_sem, reduceIte, Nat.reduceLT, Nat.reduceEqDiff, Nat.reduceAdd, Nat.reduceMul, Nat.reduceSub, Nat.reduceLeDiff, reduceCtorEq, s1, s2, c1, c2, Try.results71])
    | (with_reducible refine aw_drw (by kernel_rfl) hK hD ?_; simp only [go_sem, reduceIte, Nat.reduceLT, Nat.reduceEqDiff, Nat.reduceAdd, Nat.reduceMul, Nat.reduceSub, Nat.reduceLeDiff, reduceCtorEq, s1, s2, c1, c2, Try.results71])
    | (with_reducible refine aw_reg hK ?_; simp only [go_sem, reduceIte, Nat.reduceLT, Nat.reduceEqDiff, Nat.reduceAdd, Nat.reduceMul, Nat.reduceSub, Nat.reduceLeDiff, reduceCtorEq, s1, s2, c1, c2, Try.results71])
    | (with_reducible refine aw_if ?_; simp only [go_sem, reduceIte, Nat.reduceLT, Nat.reduceEqDiff, Nat.reduceAdd, Nat.reduceMul, Nat.reduceSub, Nat.reduceLeDiff, reduceCtorEq, s1, s2, c1, c2, Try.results71])
    | (with_reducible refine aw_block ?_)
    | (with_reducible refine aw_ret ?_; (try simp only [thenQ, blockQ]); refine aw_ret' ?_; simp only [go_sem, reduceIte, Nat.reduceLT, Nat.reduceEqDiff, Nat.reduceAdd, Nat.reduceMul, Nat.reduceSub, Nat.reduceLeDiff, reduceCtorEq, s1, s2, c1, c2, Try.results71])
    | (with_reducible refine aw_exit ?_; simp only [thenQ, blockQ, reduceIte, Nat.reduceEqDiff])
    | (with_reducible refine aw_skip ?_; simp only [thenQ, blockQ])
    | (with_reducible refine gate_intro (fun h => ?_) (fun h => ?_) <;> simp only [h, go_sem, reduceIte, Nat.reduceLT, Nat.reduceEqDiff, Nat.reduceAdd, Nat.reduceMul, Nat.reduceSub, Nat.reduceLeDiff, reduceCtorEq, s1, s2, c1, c2, Try.results71] <;> (try simp only [decide_eq_true_eq, decide_eq_false_iff_not, Bool.not_true] at h))
    | (with_reducible refine chk_in (by kernel_rfl) ?_)
    | (with_reducible refine And.intro (And.intro (by omega) (by omega)) ?_)
    | (with_reducible refine And.intro (by omega) ?_)
    | (refine cmp_call rfl rfl ?_)
    | (refine or_call (l := [_, _, _]) rfl rfl (by simp) rfl ?_)
    | (rw [get_in]; rotate_left; omega; simp only [go_sem, reduceIte, Nat.reduceLT, Nat.reduceEqDiff, Nat.reduceAdd, Nat.reduceMul, Nat.reduceSub, Nat.reduceLeDiff, reduceCtorEq, s1, s2, c1, c2, Try.results71])
    | fail)
  all_goals (simp [firstNZ, cmpS]; (repeat' split) <;> simp_all)
end Go.Proofs.R1

/- The tape. -/
set_option linter.unusedVariables false
set_option linter.unusedSimpArgs false
set_option maxRecDepth 8000
namespace Go.Proofs.R1
open Go Go.Abs

abbrev Tp := List Int × Nat
def tpD (t : Tp) : List D := [slI t.1, i64 t.2]
def tpOk (t : Tp) : Prop := t.2 ≤ t.1.length ∧ t.1.length ≤ 600
def raw (t : Tp) : Int × Tp := match t.1[t.2]? with
  | some x => (x, (t.1, t.2 + 1))
  | none => (0, t)
theorem raw_ok {t : Tp} (h : tpOk t) : tpOk (raw t).2 := by
  unfold raw
  split
  · rename_i x hx
    have : t.2 < t.1.length := by
      rcases Nat.lt_or_ge t.2 t.1.length with h | h
      · exact h
      · rw [List.getElem?_eq_none h] at hx; cases hx
    exact ⟨this, h.2⟩
  · exact h
def rawC : Con where
  α := Tp
  kinds := [true]
  args := fun a => [.io (tpD a)]
  pre := tpOk
  post := fun a r => r = ⟨[.d (i64 (raw a).1)], [tpD (raw a).2]⟩
  clean := false
theorem rawf_ok : CallOk Try.prog 41 rawC := by
  refine ok_of_body' 31 1 Try.func41 rfl (by decide) Try.ntmps41 (by intro a h; exact ⟨rfl, rfl⟩) (by decide) (by intro h; cases h) ?_
  rintro ⟨l, p⟩ ⟨h1, h2⟩
  simp only [rawC, tpD, slI] at h1 h2 ⊢
  simp only [initE, initMm, List.length_cons, List.length_nil, Nat.reduceAdd]
  cases hx : l[p]? with
  | none =>
    have hge : l.length ≤ p := by simpa using hx
    have hc : decide ((p : Int) ≥ (l.length : Int)) = true := by simp; omega
    repeat' (first
    | (with_reducible refine aw_seq ?_)
    | (with_reducible refine kont_in ?_; simp only [go_sem, reduceIte, Nat.reduceLT, Nat.reduceEqDiff, Nat.reduceAdd, Nat.reduceMul, Nat.reduceSub, Nat.reduceLeDiff, reduceCtorEq, hc, Try.results41])
    | (with_reducible refine dKont_in ?_; simp only [go_sem, reduceIte, Nat.reduceLT, Nat.reduceEqDiff, Nat.reduceAdd, Nat.reduceMul, Nat.reduceSub, Nat.reduceLeDiff, reduceCtorEq, hc, Try.results41])
    | (with_reducible refine aw_drw (by kernel_rfl) kOk_nil kDet_nil ?_; simp only [go_sem, reduceIte, Nat.reduceLT, Nat.reduceEqDiff, Nat.reduceAdd, Nat.reduceMul, Nat.reduceSub, Nat.reduceLeDiff, reduceCtorEq, hc, Try.results41])
    | (with_reducible refine aw_reg kOk_nil ?_; simp only [go_sem, reduceIte, Nat.reduceLT, Nat.reduceEqDiff, Nat.reduceAdd, Nat.reduceMul, Nat.reduceSub, Nat.reduceLeDiff, reduceCtorEq, hc, Try.results41])
    | (with_reducible refine aw_if ?_; simp only [go_sem, reduceIte, Nat.reduceLT, Nat.reduceEqDiff, Nat.reduceAdd, Nat.reduceMul, Nat.reduceSub, Nat.reduceLeDiff, reduceCtorEq, hc, Try.results41])
    | (with_reducible refine aw_block ?_)
    | (with_reducible refine aw_ret ?_; (try simp only [thenQ, blockQ]); refine aw_ret' ?_; simp only [go_sem, reduceIte, Nat.reduceLT, Nat.reduceEqDiff, Nat.reduceAdd, Nat.reduceMul, Nat.reduceSub, Nat.reduceLeDiff, reduceCtorEq, hc, Try.results41])
    | (with_reducible refine aw_exit ?_; simp only [thenQ, blockQ, reduceIte, Nat.reduceEqDiff])
    | (with_reducible refine aw_skip ?_; simp only [thenQ, blockQ])
    | (with_reducible refine gate_intro (fun h => ?_) (fun h => ?_) <;> simp only [h, go_sem, reduceIte, Nat.reduceLT, Nat.reduceEqDiff, Nat.reduceAdd, Nat.reduceMul, Nat.reduceSub, Nat.reduceLeDiff, reduceCtorEq, hc, Try.results41] <;> (try simp only [decide_eq_true_eq, decide_eq_false_iff_not, Bool.not_true] at h))
    | (with_reducible refine chk_in (by kernel_rfl) ?_)
    | (with_reducible refine And.intro (And.intro (by omega) (by omega)) ?_)
    | (with_reducible refine And.intro (by omega) ?_)
    | (rw [get_in]; rotate_left; omega; simp only [go_sem, reduceIte, Nat.reduceLT, Nat.reduceEqDiff, Nat.reduceAdd, Nat.reduceMul, Nat.reduceSub, Nat.reduceLeDiff, reduceCtorEq, hc, Try.results41])
    | fail)
    all_goals simp [raw, hx]
  | some x =>
    have hlt : p < l.length := by
      rcases Nat.lt_or_ge p l.length with h | h
      · exact h
      · rw [List.getElem?_eq_none h] at hx; cases hx
    have hc : decide ((p : Int) ≥ (l.length : Int)) = false := by simp; omega
    have hw : IntKind.i64.wrap ((p : Int) + 1) = ((p + 1 : Nat) : Int) := by rw [wr64 (by omega) (by omega)]; rfl
    have hw2 : IntKind.i64.wrap (((p + 1 : Nat) : Int) - 1) = (p : Int) := by rw [wr64 (by omega) (by omega)]; omega
    repeat' (first
    | (with_reducible refine aw_seq ?_)
    | (with_reducible refine kont_in ?_; simp only [go_sem, reduceIte, Nat.reduceLT, Nat.reduceEqDiff, Nat.reduceAdd, Nat.reduceMul, Nat.reduceSub, Nat.reduceLeDiff, reduceCtorEq, hc, hx, hw, hw2, Try.results41])
    | (with_reducible refine dKont_in ?_; simp only [go_sem, reduceIte, Nat.reduceLT, Nat.reduceEqDiff, Nat.reduceAdd, Nat.reduceMul, Nat.reduceSub, Nat.reduceLeDiff, reduceCtorEq, hc, hx, hw, hw2, Try.results41])
    | (with_reducible refine aw_drw (by kernel_rfl) kOk_nil kDet_nil ?_; simp only [go_sem, reduceIte, Nat.reduceLT, Nat.reduceEqDiff, Nat.reduceAdd, Nat.reduceMul, Nat.reduceSub, Nat.reduceLeDiff, reduceCtorEq, hc, hx, hw, hw2, Try.results41])
    | (with_reducible refine aw_reg kOk_nil ?_; simp only [go_sem, reduceIte, Nat.reduceLT, Nat.reduceEqDiff, Nat.reduceAdd, Nat.reduceMul, Nat.reduceSub, Nat.reduceLeDiff, reduceCtorEq, hc, hx, hw, hw2, Try.results41])
    | (with_reducible refine aw_if ?_; simp only [go_sem, reduceIte, Nat.reduceLT, Nat.reduceEqDiff, Nat.reduceAdd, Nat.reduceMul, Nat.reduceSub, Nat.reduceLeDiff, reduceCtorEq, hc, hx, hw, hw2, Try.results41])
    | (with_reducible refine aw_block ?_)
    | (with_reducible refine aw_ret ?_; (try simp only [thenQ, blockQ]); refine aw_ret' ?_; simp only [go_sem, reduceIte, Nat.reduceLT, Nat.reduceEqDiff, Nat.reduceAdd, Nat.reduceMul, Nat.reduceSub, Nat.reduceLeDiff, reduceCtorEq, hc, hx, hw, hw2, Try.results41])
    | (with_reducible refine aw_exit ?_; simp only [thenQ, blockQ, reduceIte, Nat.reduceEqDiff])
    | (with_reducible refine aw_skip ?_; simp only [thenQ, blockQ])
    | (with_reducible refine gate_intro (fun h => ?_) (fun h => ?_) <;> simp only [h, go_sem, reduceIte, Nat.reduceLT, Nat.reduceEqDiff, Nat.reduceAdd, Nat.reduceMul, Nat.reduceSub, Nat.reduceLeDiff, reduceCtorEq, hc, hx, hw, hw2, Try.results41] <;> (try simp only [decide_eq_true_eq, decide_eq_false_iff_not, Bool.not_true] at h))
    | (with_reducible refine chk_in (by kernel_rfl) ?_)
    | (with_reducible refine And.intro (And.intro (by omega) (by omega)) ?_)
    | (with_reducible refine And.intro (by omega) ?_)
    | (rw [get_in]; rotate_left; omega; simp only [go_sem, reduceIte, Nat.reduceLT, Nat.reduceEqDiff, Nat.reduceAdd, Nat.reduceMul, Nat.reduceSub, Nat.reduceLeDiff, reduceCtorEq, hc, hx, hw, hw2, Try.results41])
    | fail)
    all_goals simp [raw, hx]
theorem raw_call {K : Kt} (hk : K 41 = some rawC) {np fid id : Nat} {M : Mem} {nx : D → Mem → Prop} (t : Tp) (hm : M id = some (.cells (tpD t))) (hp : tpOk t) (hf : M fid = none)
    (hn : nx (i64 (raw t).1) (upd M id (some (.cells (tpD (raw t).2))))) : semCall K np 41 [.box id 0] M fid nx :=
  call_io hk rfl rfl (fun _ _ h => h) t (by simp [nf, hm, tpD, slI, nf0]) rfl (by simp [rawC, argsF, ioArg, hm, consAD, tpD, slI, mapO, fz, fz0]) hp hf hn

def cutI (x n : Int) : Int := if n < 1 then 0 else if x.tmod n < 0 then x.tmod n + n else x.tmod n
def cutC : Con where
  α := Int × Int
  kinds := [false, false]
  args := fun a => [.d (i64 a.1), .d (i64 a.2)]
  pre := fun a => a.2 ≤ 9223372036854775807
  post := fun a r => r = ⟨[.d (i64 (cutI a.1 a.2))], []⟩
  clean := true
theorem cut_ok : CallOk Try.prog 28 cutC := by
  refine ok_of_body' 16 2 Try.func28 rfl (by decide) Try.ntmps28 (by intro a h; exact ⟨rfl, rfl⟩) (by decide) (by rintro _ a r _ rfl; rfl) ?_
  rintro ⟨x, n⟩ hn
  simp only [cutC] at hn ⊢
  simp only [initE, initMm, List.length_cons, List.length_nil, Nat.reduceAdd]
  by_cases hn1 : n < 1
  · repeat' (first
    | (with_reducible refine aw_seq ?_)
    | (with_reducible refine kont_in ?_; simp only [go_sem, reduceIte, Nat.reduceLT, Nat.reduceEqDiff, Nat.reduceAdd, Nat.reduceMul, Nat.reduceSub, Nat.reduceLeDiff, reduceCtorEq, hn1, decide_true, Try.results28])
    | (with_reducible refine dKont_in ?_; simp only [go_sem, reduceIte, Nat.reduceLT, Nat.reduceEqDiff, Nat.reduceAdd, Nat.reduceMul, Nat.reduceSub, Nat.reduceLeDiff, reduceCtorEq, hn1, decide_true, Try.results28])
    | (with_reducible refine aw_drw (by kernel_rfl) kOk_nil kDet_nil ?_; simp only [go_sem, reduceIte, Nat.reduceLT, Nat.reduceEqDiff, Nat.reduceAdd, Nat.reduceMul, Nat.reduceSub, Nat.reduceLeDiff, reduceCtorEq, hn1, decide_true, Try.results28])
    | (with_reducible refine aw_reg kOk_nil ?_; simp only [go_sem, reduceIte, Nat.reduceLT, Nat.reduceEqDiff, Nat.reduceAdd, Nat.reduceMul, Nat.reduceSub, Nat.reduceLeDiff, reduceCtorEq, hn1, decide_true, Try.results28])
    | (with_reducible refine aw_if ?_; simp only [go_sem, reduceIte, Nat.reduceLT, Nat.reduceEqDiff, Nat.reduceAdd, Nat.reduceMul, Nat.reduceSub, Nat.reduceLeDiff, reduceCtorEq, hn1, decide_true, Try.results28])
    | (with_reducible refine aw_block ?_)
    | (with_reducible refine aw_ret ?_; (try simp only [thenQ, blockQ]); refine aw_ret' ?_; simp only [go_sem, reduceIte, Nat.reduceLT, Nat.reduceEqDiff, Nat.reduceAdd, Nat.reduceMul, Nat.reduceSub, Nat.reduceLeDiff, reduceCtorEq, hn1, decide_true, Try.results28])
    | (with_reducible refine aw_exit ?_; simp only [thenQ, blockQ, reduceIte, Nat.reduceEqDiff])
    | (with_reducible refine aw_skip ?_; simp only [thenQ, blockQ])
    | (with_reducible refine gate_intro (fun h => ?_) (fun h => ?_) <;> simp only [h, go_sem, reduceIte, Nat.reduceLT, Nat.reduceEqDiff, Nat.reduceAdd, Nat.reduceMul, Nat.reduceSub, Nat.reduceLeDiff, reduceCtorEq, hn1, decide_true, Try.results28] <;> (try simp only [decide_eq_true_eq, decide_eq_false_iff_not, Bool.not_true] at h))
    | (with_reducible refine chk_in (by kernel_rfl) ?_)
    | (with_reducible refine And.intro (And.intro (by omega) (by omega)) ?_)
    | (with_reducible refine And.intro (by omega) ?_)
    | (rw [get_in]; rotate_left; omega; simp only [go_sem, reduceIte, Nat.reduceLT, Nat.reduceEqDiff, Nat.reduceAdd, Nat.reduceMul, Nat.reduceSub, Nat.reduceLeDiff, reduceCtorEq, hn1, decide_true, Try.results28])
    | fail)
    all_goals simp [cutI, hn1]
  · have hc : decide (n < 1) = false := by simp; omega
    have h0 : n ≠ 0 := by omega
    have hw : x.tmod n < 0 → IntKind.i64.wrap (x.tmod n + n) = x.tmod n + n := fun h => by
      have := Int.lt_tmod_of_pos x (show 0 < n by omega)
      exact wr64 (by omega) (by omega)
    repeat' (first
    | (with_reducible refine aw_seq ?_)
    | (with_reducible refine kont_in ?_; simp only [go_sem, reduceIte, Nat.reduceLT, Nat.reduceEqDiff, Nat.reduceAdd, Nat.reduceMul, Nat.reduceSub, Nat.reduceLeDiff, reduceCtorEq, hc, h0, not_false_eq_true, ne_eq, Try.results28])
    | (with_reducible refine dKont_in ?_; simp only [go_sem, reduceIte, Nat.reduceLT, Nat.reduceEqDiff, Nat.reduceAdd, Nat.reduceMul, Nat.reduceSub, Nat.reduceLeDiff, reduceCtorEq, hc, h0, not_false_eq_true, ne_eq, Try.results28])
    | (with_reducible refine aw_drw (by kernel_rfl) kOk_nil kDet_nil ?_; simp only [go_sem, reduceIte, Nat.reduceLT, Nat.reduceEqDiff, Nat.reduceAdd, Nat.reduceMul, Nat.reduceSub, Nat.reduceLeDiff, reduceCtorEq, hc, h0, not_false_eq_true, ne_eq, Try.results28])
    | (with_reducible refine aw_reg kOk_nil ?_; simp only [go_sem, reduceIte, Nat.reduceLT, Nat.reduceEqDiff, Nat.reduceAdd, Nat.reduceMul, Nat.reduceSub, Nat.reduceLeDiff, reduceCtorEq, hc, h0, not_false_eq_true, ne_eq, Try.results28])
    | (with_reducible refine aw_if ?_; simp only [go_sem, reduceIte, Nat.reduceLT, Nat.reduceEqDiff, Nat.reduceAdd, Nat.reduceMul, Nat.reduceSub, Nat.reduceLeDiff, reduceCtorEq, hc, h0, not_false_eq_true, ne_eq, Try.results28])
    | (with_reducible refine aw_block ?_)
    | (with_reducible refine aw_ret ?_; (try simp only [thenQ, blockQ]); refine aw_ret' ?_; simp only [go_sem, reduceIte, Nat.reduceLT, Nat.reduceEqDiff, Nat.reduceAdd, Nat.reduceMul, Nat.reduceSub, Nat.reduceLeDiff, reduceCtorEq, hc, h0, not_false_eq_true, ne_eq, Try.results28])
    | (with_reducible refine aw_exit ?_; simp only [thenQ, blockQ, reduceIte, Nat.reduceEqDiff])
    | (with_reducible refine aw_skip ?_; simp only [thenQ, blockQ])
    | (with_reducible refine gate_intro (fun h => ?_) (fun h => ?_) <;> simp only [h, go_sem, reduceIte, Nat.reduceLT, Nat.reduceEqDiff, Nat.reduceAdd, Nat.reduceMul, Nat.reduceSub, Nat.reduceLeDiff, reduceCtorEq, hc, h0, not_false_eq_true, ne_eq, Try.results28] <;> (try simp only [decide_eq_true_eq, decide_eq_false_iff_not, Bool.not_true] at h))
    | (with_reducible refine chk_in (by kernel_rfl) ?_)
    | (with_reducible refine And.intro (And.intro (by omega) (by omega)) ?_)
    | (with_reducible refine And.intro (by omega) ?_)
    | (rw [get_in]; rotate_left; omega; simp only [go_sem, reduceIte, Nat.reduceLT, Nat.reduceEqDiff, Nat.reduceAdd, Nat.reduceMul, Nat.reduceSub, Nat.reduceLeDiff, reduceCtorEq, hc, h0, not_false_eq_true, ne_eq, Try.results28])
    | fail)
    · simp [cutI, hn1, h, hw]
    · have h' : ¬ x.tmod n < 0 := h
      simp [cutI, hn1, h']
theorem cut_call {K : Kt} (hk : K 28 = some cutC) {np fid : Nat} {M : Mem} {nx : D → Mem → Prop} {x y : Int} (hp : y ≤ 9223372036854775807) (hf : M fid = none) (hn : nx (i64 (cutI x y)) M) : semCall K np 28 [i64 x, i64 y] M fid nx :=
  call_fn hk rfl rfl (fun _ _ h => h) (x, y) rfl hp hf hn
theorem cutI_lo (x n : Int) : 0 ≤ cutI x n := by
  unfold cutI
  split
  · omega
  · split
    · have := Int.lt_tmod_of_pos x (show 0 < n by omega); omega
    · omega
theorem cutI_hi (x : Int) {n : Int} (h : 1 ≤ n) : cutI x n < n := by
  unfold cutI
  rw [if_neg (by omega)]
  split
  · omega
  · exact Int.tmod_lt_of_pos x (by omega)

/-- A method of the tape: its value, the tape behind it. -/
def tpC (g : Tp → Int → Int) (h : Tp → Int → Tp) : Con where
  α := Tp × Int
  kinds := [true, false]
  args := fun a => [.io (tpD a.1), .d (i64 a.2)]
  pre := fun a => tpOk a.1 ∧ a.2 ≤ 9223372036854775807
  post := fun a r => r = ⟨[.d (i64 (g a.1 a.2))], [tpD (h a.1 a.2)]⟩
  clean := false
theorem tp_call {K : Kt} {f : FuncId} {g : Tp → Int → Int} {h : Tp → Int → Tp} (hk : K f = some (tpC g h)) {np fid id : Nat} {M : Mem} {nx : D → Mem → Prop} (t : Tp) (n : Int) (hm : M id = some (.cells (tpD t))) (hp : tpOk t) (hn0 : n ≤ 9223372036854775807) (hf : M fid = none)
    (hn : nx (i64 (g t n)) (upd M id (some (.cells (tpD (h t n)))))) : semCall K np f [.box id 0, i64 n] M fid nx :=
  call_io hk rfl rfl (fun _ _ h => h) (t, n) (by simp [nf, hm, tpD, slI, nf0]) rfl (by simp [tpC, argsF, ioArg, hm, consAD, tpD, slI, mapO, fz, fz0]) ⟨hp, hn0⟩ hf hn

abbrev nextC : Con := tpC (fun t n => cutI (raw t).1 n) (fun t n => (raw t).2)
theorem next_ok' : CallOk Try.prog 16 nextC := by
  refine ok_of_body' 9 2 Try.func16 rfl (by decide) Try.ntmps16 (by intro a h; exact ⟨rfl, rfl⟩) (by decide) (by intro h; cases h) ?_
  rintro ⟨t, n⟩ ⟨h1, h2⟩
  simp only [nextC, tpC] at h1 h2 ⊢
  simp only [initE, initMm, List.length_cons, List.length_nil, Nat.reduceAdd]
  have hK : KOk Try.prog (kOf [(41, rawC), (28, cutC)]) := kOk_cons rawf_ok (kOk_cons cut_ok kOk_nil)
  repeat' (first
    | (with_reducible refine aw_seq ?_)
    | (with_reducible refine kont_in ?_; simp only [go_sem, reduceIte, Nat.reduceLT, Nat.reduceEqDiff, Nat.reduceAdd, Nat.reduceMul, Nat.reduceSub, Nat.reduceLeDiff, reduceCtorEq, Try.results16])
    | (with_reducible refine dKont_in ?_; simp only [go_sem, reduceIte, Nat.reduceLT, Nat.reduceEqDiff, Nat.reduceAdd, Nat.reduceMul, Nat.reduceSub, Nat.reduceLeDiff, reduceCtorEq, Try.results16])
    | (with_reducible refine aw_drw (by kernel_rfl) hK kDet_nil ?_; simp only [go_sem, reduceIte, Nat.reduceLT, Nat.reduceEqDiff, Nat.reduceAdd, Nat.reduceMul, Nat.reduceSub, Nat.reduceLeDiff, reduceCtorEq, Try.results16])
    | (with_reducible refine aw_reg hK ?_; simp only [go_sem, reduceIte, Nat.reduceLT, Nat.reduceEqDiff, Nat.reduceAdd, Nat.reduceMul, Nat.reduceSub, Nat.reduceLeDiff, reduceCtorEq, Try.results16])
    | (with_reducible refine aw_if ?_; simp only [go_sem, reduceIte, Nat.reduceLT, Nat.reduceEqDiff, Nat.reduceAdd, Nat.reduceMul, Nat.reduceSub, Nat.reduceLeDiff, reduceCtorEq, Try.results16])
    | (with_reducible refine aw_block ?_)
    | (with_reducible refine aw_ret ?_; (try simp only [thenQ, blockQ]); refine aw_ret' ?_; simp only [go_sem, reduceIte, Nat.reduceLT, Nat.reduceEqDiff, Nat.reduceAdd, Nat.reduceMul, Nat.reduceSub, Nat.reduceLeDiff, reduceCtorEq, Try.results16])
    | (with_reducible refine aw_exit ?_; simp only [thenQ, blockQ, reduceIte, Nat.reduceEqDiff])
    | (with_reducible refine aw_skip ?_; simp only [thenQ, blockQ])
    | (with_reducible refine gate_intro (fun h => ?_) (fun h => ?_) <;> simp only [h, go_sem, reduceIte, Nat.reduceLT, Nat.reduceEqDiff, Nat.reduceAdd, Nat.reduceMul, Nat.reduceSub, Nat.reduceLeDiff, reduceCtorEq, Try.results16] <;> (try simp only [decide_eq_true_eq, decide_eq_false_iff_not, Bool.not_true] at h))
    | (with_reducible refine chk_in (by kernel_rfl) ?_)
    | (with_reducible refine And.intro (And.intro (by omega) (by omega)) ?_)
    | (with_reducible refine And.intro (by omega) ?_)
    | (refine raw_call rfl t rfl h1 rfl ?_)
    | (refine cut_call rfl h2 rfl ?_)
    | (rw [get_in]; rotate_left; omega; simp only [go_sem, reduceIte, Nat.reduceLT, Nat.reduceEqDiff, Nat.reduceAdd, Nat.reduceMul, Nat.reduceSub, Nat.reduceLeDiff, reduceCtorEq, Try.results16])
    | fail)
  all_goals simp only [tpD, slI, go_sem, reduceIte, Nat.reduceLT, Nat.reduceEqDiff, Nat.reduceAdd, Nat.reduceMul, Nat.reduceSub, Nat.reduceLeDiff, reduceCtorEq]

abbrev oneC : Con := { tpC (fun _ _ => 0) (fun t n => (raw t).2) with post := fun a r => r = ⟨[.d (bl (decide (cutI (raw a.1).1 a.2 = a.2 - 1)))], [tpD (raw a.1).2]⟩, pre := fun a => tpOk a.1 ∧ 0 ≤ a.2 ∧ a.2 ≤ 9223372036854775807 }
theorem one_ok : CallOk Try.prog 21 oneC := by
  refine ok_of_body' 11 2 Try.func21 rfl (by decide) Try.ntmps21 (by intro a h; exact ⟨rfl, rfl⟩) (by decide) (by intro h; cases h) ?_
  rintro ⟨t, n⟩ ⟨h1, h0, h2⟩
  simp only [oneC, tpC] at h1 h2 h0 ⊢
  simp only [initE, initMm, List.length_cons, List.length_nil, Nat.reduceAdd]
  have hK : KOk Try.prog (kOf [(16, nextC)]) := kOk_cons next_ok' kOk_nil
  have hw : IntKind.i64.wrap (n - 1) = n - 1 := wr64 (by omega) (by omega)
  repeat' (first
    | (with_reducible refine aw_seq ?_)
    | (with_reducible refine kont_in ?_; simp only [go_sem, reduceIte, Nat.reduceLT, Nat.reduceEqDiff, Nat.reduceAdd, Nat.reduceMul, Nat.reduceSub, Nat.reduceLeDiff, reduceCtorEq, hw, Try.results21])
    | (with_reducible refine dKont_in ?_; simp only [go_sem, reduceIte, Nat.reduceLT, Nat.reduceEqDiff, Nat.reduceAdd, Nat.reduceMul, Nat.reduceSub, Nat.reduceLeDiff, reduceCtorEq, hw, Try.results21])
    | (with_reducible refine aw_drw (by kernel_rfl) hK kDet_nil ?_; simp only [go_sem, reduceIte, Nat.reduceLT, Nat.reduceEqDiff, Nat.reduceAdd, Nat.reduceMul, Nat.reduceSub, Nat.reduceLeDiff, reduceCtorEq, hw, Try.results21])
    | (with_reducible refine aw_reg hK ?_; simp only [go_sem, reduceIte, Nat.reduceLT, Nat.reduceEqDiff, Nat.reduceAdd, Nat.reduceMul, Nat.reduceSub, Nat.reduceLeDiff, reduceCtorEq, hw, Try.results21])
    | (with_reducible refine aw_if ?_; simp only [go_sem, reduceIte, Nat.reduceLT, Nat.reduceEqDiff, Nat.reduceAdd, Nat.reduceMul, Nat.reduceSub, Nat.reduceLeDiff, reduceCtorEq, hw, Try.results21])
    | (with_reducible refine aw_block ?_)
    | (with_reducible refine aw_ret ?_; (try simp only [thenQ, blockQ]); refine aw_ret' ?_; simp only [go_sem, reduceIte, Nat.reduceLT, Nat.reduceEqDiff, Nat.reduceAdd, Nat.reduceMul, Nat.reduceSub, Nat.reduceLeDiff, reduceCtorEq, hw, Try.results21])
    | (with_reducible refine aw_exit ?_; simp only [thenQ, blockQ, reduceIte, Nat.reduceEqDiff])
    | (with_reducible refine aw_skip ?_; simp only [thenQ, blockQ])
    | (with_reducible refine gate_intro (fun h => ?_) (fun h => ?_) <;> simp only [h, go_sem, reduceIte, Nat.reduceLT, Nat.reduceEqDiff, Nat.reduceAdd, Nat.reduceMul, Nat.reduceSub, Nat.reduceLeDiff, reduceCtorEq, hw, Try.results21] <;> (try simp only [decide_eq_true_eq, decide_eq_false_iff_not, Bool.not_true] at h))
    | (with_reducible refine chk_in (by kernel_rfl) ?_)
    | (with_reducible refine And.intro (And.intro (by omega) (by omega)) ?_)
    | (with_reducible refine And.intro (by omega) ?_)
    | (refine tp_call (f := 16) rfl t n rfl h1 h2 rfl ?_)
    | (rw [get_in]; rotate_left; omega; simp only [go_sem, reduceIte, Nat.reduceLT, Nat.reduceEqDiff, Nat.reduceAdd, Nat.reduceMul, Nat.reduceSub, Nat.reduceLeDiff, reduceCtorEq, hw, Try.results21])
    | fail)
  all_goals (simp only [tpD, slI, go_sem, reduceIte, Nat.reduceLT, Nat.reduceEqDiff, Nat.reduceAdd, Nat.reduceMul, Nat.reduceSub, Nat.reduceLeDiff, reduceCtorEq])
  all_goals (simp; rfl)

def rngI (t : Tp) (a b : Int) : Int := a + cutI (raw t).1 (b - a + 1)
abbrev rangeC : Con where
  α := Tp × Int × Int
  kinds := [true, false, false]
  args := fun a => [.io (tpD a.1), .d (i64 a.2.1), .d (i64 a.2.2)]
  pre := fun a => tpOk a.1 ∧ -1000000 ≤ a.2.1 ∧ a.2.1 ≤ 1000000 ∧ -1000000 ≤ a.2.2 ∧ a.2.2 ≤ 1000000
  post := fun a r => r = ⟨[.d (i64 (rngI a.1 a.2.1 a.2.2))], [tpD (raw a.1).2]⟩
  clean := false
theorem range_ok' : CallOk Try.prog 25 rangeC := by
  refine ok_of_body' 15 3 Try.func25 rfl (by decide) Try.ntmps25 (by intro a h; exact ⟨rfl, rfl⟩) (by decide) (by intro h; cases h) ?_
  rintro ⟨t, a, b⟩ ⟨h1, h2, h3, h4, h5⟩
  simp only [rangeC] at h1 h2 h3 h4 h5 ⊢
  simp only [initE, initMm, List.length_cons, List.length_nil, Nat.reduceAdd]
  have hK : KOk Try.prog (kOf [(16, nextC)]) := kOk_cons next_ok' kOk_nil
  have hw1 : IntKind.i64.wrap (b - a) = b - a := wr64 (by omega) (by omega)
  have hw2 : IntKind.i64.wrap (b - a + 1) = b - a + 1 := wr64 (by omega) (by omega)
  have hlo := cutI_lo (raw t).1 (b - a + 1)
  have hhi : cutI (raw t).1 (b - a + 1) ≤ 2000001 := by
    by_cases h : 1 ≤ b - a + 1
    · have := cutI_hi (raw t).1 h; omega
    · unfold cutI; rw [if_pos (by omega)]; omega
  have hw3 : IntKind.i64.wrap (a + cutI (raw t).1 (b - a + 1)) = a + cutI (raw t).1 (b - a + 1) := wr64 (by omega) (by omega)
  repeat' (first
    | (with_reducible refine aw_seq ?_)
    | (with_reducible refine kont_in ?_; simp only [go_sem, reduceIte, Nat.reduceLT, Nat.reduceEqDiff, Nat.reduceAdd, Nat.reduceMul, Nat.reduceSub, Nat.reduceLeDiff, reduceCtorEq, hw1, hw2, hw3, Try.results25])
    | (with_reducible refine dKont_in ?_; simp only [go_sem, reduceIte, Nat.reduceLT, Nat.reduceEqDiff, Nat.reduceAdd, Nat.reduceMul, Nat.reduceSub, Nat.reduceLeDiff, reduceCtorEq, hw1, hw2, hw3, Try.results25])
    | (with_reducible refine aw_drw (by kernel_rfl) hK kDet_nil ?_; simp only [go_sem, reduceIte, Nat.reduceLT, Nat.reduceEqDiff, Nat.reduceAdd, Nat.reduceMul, Nat.reduceSub, Nat.reduceLeDiff, reduceCtorEq, hw1, hw2, hw3, Try.results25])
    | (with_reducible refine aw_reg hK ?_; simp only [go_sem, reduceIte, Nat.reduceLT, Nat.reduceEqDiff, Nat.reduceAdd, Nat.reduceMul, Nat.reduceSub, Nat.reduceLeDiff, reduceCtorEq, hw1, hw2, hw3, Try.results25])
    | (with_reducible refine aw_if ?_; simp only [go_sem, reduceIte, Nat.reduceLT, Nat.reduceEqDiff, Nat.reduceAdd, Nat.reduceMul, Nat.reduceSub, Nat.reduceLeDiff, reduceCtorEq, hw1, hw2, hw3, Try.results25])
    | (with_reducible refine aw_block ?_)
    | (with_reducible refine aw_ret ?_; (try simp only [thenQ, blockQ]); refine aw_ret' ?_; simp only [go_sem, reduceIte, Nat.reduceLT, Nat.reduceEqDiff, Nat.reduceAdd, Nat.reduceMul, Nat.reduceSub, Nat.reduceLeDiff, reduceCtorEq, hw1, hw2, hw3, Try.results25])
    | (with_reducible refine aw_exit ?_; simp only [thenQ, blockQ, reduceIte, Nat.reduceEqDiff])
    | (with_reducible refine aw_skip ?_; simp only [thenQ, blockQ])
    | (with_reducible refine gate_intro (fun h => ?_) (fun h => ?_) <;> simp only [h, go_sem, reduceIte, Nat.reduceLT, Nat.reduceEqDiff, Nat.reduceAdd, Nat.reduceMul, Nat.reduceSub, Nat.reduceLeDiff, reduceCtorEq, hw1, hw2, hw3, Try.results25] <;> (try simp only [decide_eq_true_eq, decide_eq_false_iff_not, Bool.not_true] at h))
    | (with_reducible refine chk_in (by kernel_rfl) ?_)
    | (with_reducible refine And.intro (And.intro (by omega) (by omega)) ?_)
    | (with_reducible refine And.intro (by omega) ?_)
    | (refine tp_call (f := 16) rfl t (b - a + 1) rfl h1 (by omega) rfl ?_)
    | (rw [get_in]; rotate_left; omega; simp only [go_sem, reduceIte, Nat.reduceLT, Nat.reduceEqDiff, Nat.reduceAdd, Nat.reduceMul, Nat.reduceSub, Nat.reduceLeDiff, reduceCtorEq, hw1, hw2, hw3, Try.results25])
    | fail)
  all_goals (simp only [tpD, slI, rngI, go_sem, reduceIte, Nat.reduceLT, Nat.reduceEqDiff, Nat.reduceAdd, Nat.reduceMul, Nat.reduceSub, Nat.reduceLeDiff, reduceCtorEq])
theorem range_call {K : Kt} (hk : K 25 = some rangeC) {np fid id : Nat} {M : Mem} {nx : D → Mem → Prop} (t : Tp) (a b : Int) (hm : M id = some (.cells (tpD t))) (hp : tpOk t) (ha : -1000000 ≤ a ∧ a ≤ 1000000 ∧ -1000000 ≤ b ∧ b ≤ 1000000) (hf : M fid = none)
    (hn : nx (i64 (rngI t a b)) (upd M id (some (.cells (tpD (raw t).2))))) : semCall K np 25 [.box id 0, i64 a, i64 b] M fid nx :=
  call_io hk rfl rfl (fun _ _ h => h) (t, a, b) (by simp [nf, hm, tpD, slI, nf0]) rfl (by simp [rangeC, argsF, ioArg, hm, consAD, tpD, slI, mapO, fz, fz0]) ⟨hp, ha⟩ hf hn
theorem one_call {K : Kt} (hk : K 21 = some oneC) {np fid id : Nat} {M : Mem} {nx : D → Mem → Prop} (t : Tp) (n : Int) (hm : M id = some (.cells (tpD t))) (hp : tpOk t) (h0 : 0 ≤ n) (hn0 : n ≤ 9223372036854775807) (hf : M fid = none)
    (hn : nx (bl (decide (cutI (raw t).1 n = n - 1))) (upd M id (some (.cells (tpD (raw t).2))))) : semCall K np 21 [.box id 0, i64 n] M fid nx :=
  call_io hk rfl rfl (fun _ _ h => h) (t, n) (by simp [nf, hm, tpD, slI, nf0]) rfl (by simp [oneC, tpC, argsF, ioArg, hm, consAD, tpD, slI, mapO, fz, fz0]) ⟨hp, h0, hn0⟩ hf hn

def pickI (t : Tp) (l : List Int) : Int := (l[(cutI (raw t).1 l.length).toNat]?).getD 0
abbrev pickC : Con where
  α := Tp × List Int
  kinds := [true, false]
  args := fun a => [.io (tpD a.1), .d (slI a.2)]
  pre := fun a => tpOk a.1 ∧ 1 ≤ a.2.length ∧ a.2.length ≤ 1000000
  post := fun a r => r = ⟨[.d (i64 (pickI a.1 a.2))], [tpD (raw a.1).2]⟩
  clean := false
theorem pick_ok : CallOk Try.prog 35 pickC := by
  refine ok_of_body' 12 2 Try.func35 rfl (by decide) Try.ntmps35 (by intro a h; exact ⟨rfl, rfl⟩) (by decide) (by intro h; cases h) ?_
  rintro ⟨t, l⟩ ⟨h1, h2, h3⟩
  simp only [pickC] at h1 h2 h3 ⊢
  simp only [initE, initMm, List.length_cons, List.length_nil, Nat.reduceAdd]
  have hK : KOk Try.prog (kOf [(16, nextC)]) := kOk_cons next_ok' kOk_nil
  have hlo := cutI_lo (raw t).1 l.length
  have hhi := cutI_hi (raw t).1 (n := l.length) (by omega)
  obtain ⟨x, hx⟩ : ∃ x, l[(cutI (raw t).1 l.length).toNat]? = some x := ⟨_, List.getElem?_eq_getElem (by omega)⟩
  simp only [slI]
  repeat' (first
    | (with_reducible refine aw_seq ?_)
    | (with_reducible refine kont_in ?_; simp only [go_sem, reduceIte, Nat.reduceLT, Nat.reduceEqDiff, Nat.reduceAdd, Nat.reduceMul, Nat.reduceSub, Nat.reduceLeDiff, reduceCtorEq, hx, Try.results35])
    | (with_reducible refine dKont_in ?_; simp only [go_sem, reduceIte, Nat.reduceLT, Nat.reduceEqDiff, Nat.reduceAdd, Nat.reduceMul, Nat.reduceSub, Nat.reduceLeDiff, reduceCtorEq, hx, Try.results35])
    | (with_reducible refine aw_drw (by kernel_rfl) hK kDet_nil ?_; simp only [go_sem, reduceIte, Nat.reduceLT, Nat.reduceEqDiff, Nat.reduceAdd, Nat.reduceMul, Nat.reduceSub, Nat.reduceLeDiff, reduceCtorEq, hx, Try.results35])
    | (with_reducible refine aw_reg hK ?_; simp only [go_sem, reduceIte, Nat.reduceLT, Nat.reduceEqDiff, Nat.reduceAdd, Nat.reduceMul, Nat.reduceSub, Nat.reduceLeDiff, reduceCtorEq, hx, Try.results35])
    | (with_reducible refine aw_if ?_; simp only [go_sem, reduceIte, Nat.reduceLT, Nat.reduceEqDiff, Nat.reduceAdd, Nat.reduceMul, Nat.reduceSub, Nat.reduceLeDiff, reduceCtorEq, hx, Try.results35])
    | (with_reducible refine aw_block ?_)
    | (with_reducible refine aw_ret ?_; (try simp only [thenQ, blockQ]); refine aw_ret' ?_; simp only [go_sem, reduceIte, Nat.reduceLT, Nat.reduceEqDiff, Nat.reduceAdd, Nat.reduceMul, Nat.reduceSub, Nat.reduceLeDiff, reduceCtorEq, hx, Try.results35])
    | (with_reducible refine aw_exit ?_; simp only [thenQ, blockQ, reduceIte, Nat.reduceEqDiff])
    | (with_reducible refine aw_skip ?_; simp only [thenQ, blockQ])
    | (with_reducible refine gate_intro (fun h => ?_) (fun h => ?_) <;> simp only [h, go_sem, reduceIte, Nat.reduceLT, Nat.reduceEqDiff, Nat.reduceAdd, Nat.reduceMul, Nat.reduceSub, Nat.reduceLeDiff, reduceCtorEq, hx, Try.results35] <;> (try simp only [decide_eq_true_eq, decide_eq_false_iff_not, Bool.not_true] at h))
    | (with_reducible refine chk_in (by kernel_rfl) ?_)
    | (with_reducible refine And.intro (And.intro (by omega) (by omega)) ?_)
    | (with_reducible refine And.intro (by omega) ?_)
    | (refine tp_call (f := 16) rfl t l.length rfl h1 (by omega) rfl ?_)
    | (rw [get_in]; rotate_left; omega; simp only [go_sem, reduceIte, Nat.reduceLT, Nat.reduceEqDiff, Nat.reduceAdd, Nat.reduceMul, Nat.reduceSub, Nat.reduceLeDiff, reduceCtorEq, hx, Try.results35])
    | fail)
  all_goals (simp only [tpD, slI, pickI, go_sem, reduceIte, Nat.reduceLT, Nat.reduceEqDiff, Nat.reduceAdd, Nat.reduceMul, Nat.reduceSub, Nat.reduceLeDiff, reduceCtorEq])
  all_goals (simp [hx])
end Go.Proofs.R1

/- The tape, continued. -/
set_option linter.unusedVariables false
set_option linter.unusedSimpArgs false
set_option maxRecDepth 8000
namespace Go.Proofs.R1
open Go Go.Abs

theorem pick_call {K : Kt} (hk : K 35 = some pickC) {np fid id : Nat} {M M' : Mem} {nx : D → Mem → Prop} (t : Tp) (l : List Int) {d : D} (hfr : frzA np M [.box id 0, d] = M') (hd : fz M' false 1 d = some (slI l)) (hm : M' id = some (.cells (tpD t))) (hp : tpOk t) (hl : 1 ≤ l.length ∧ l.length ≤ 1000000) (hf : M fid = none)
    (hn : nx (i64 (pickI t l)) (upd M' id (some (.cells (tpD (raw t).2))))) : semCall K np 35 [.box id 0, d] M fid nx :=
  call_ioF hk rfl rfl (fun _ _ h => h) (t, l) hfr rfl (by simp [pickC, argsF, ioArg, hm, consAD, hd, tpD, slI, mapO, fz, fz0]) ⟨hp, hl⟩ hf hn

def wildL : List Int := [-1, 0, 1, 2, 31, 32, 99, 100, 200, 201, 9999, 10000, 1000000, 1000001, 1152921504606846976, 1152921504606846977, -1152921504606846976, 9223372036854775807, -9223372036854775808]
abbrev wildC : Con where
  α := Tp
  kinds := [true]
  args := fun a => [.io (tpD a)]
  pre := fun a => tpOk a
  post := fun a r => r = ⟨[.d (i64 (pickI a wildL))], [tpD (raw a).2]⟩
  clean := false
theorem wild_ok : CallOk Try.prog 36 wildC := by
  refine ok_of_body' 6 1 Try.func36 rfl (by decide) Try.ntmps36 (by intro a h; exact ⟨rfl, rfl⟩) (by decide) (by intro h; cases h) ?_
  rintro t h1
  simp only [wildC] at h1 ⊢
  simp only [initE, initMm, List.length_cons, List.length_nil, Nat.reduceAdd]
  have hK : KOk Try.prog (kOf [(35, pickC)]) := kOk_cons pick_ok kOk_nil
  repeat' (first
    | (with_reducible refine aw_seq ?_)
    | (with_reducible refine kont_in ?_; simp only [go_sem, reduceIte, Nat.reduceLT, Nat.reduceEqDiff, Nat.reduceAdd, Nat.reduceMul, Nat.reduceSub, Nat.reduceLeDiff, reduceCtorEq, Try.results36])
    | (with_reducible refine dKont_in ?_; simp only [go_sem, reduceIte, Nat.reduceLT, Nat.reduceEqDiff, Nat.reduceAdd, Nat.reduceMul, Nat.reduceSub, Nat.reduceLeDiff, reduceCtorEq, Try.results36])
    | (with_reducible refine aw_drw (by kernel_rfl) hK kDet_nil ?_; simp only [go_sem, reduceIte, Nat.reduceLT, Nat.reduceEqDiff, Nat.reduceAdd, Nat.reduceMul, Nat.reduceSub, Nat.reduceLeDiff, reduceCtorEq, Try.results36])
    | (with_reducible refine aw_reg hK ?_; simp only [go_sem, reduceIte, Nat.reduceLT, Nat.reduceEqDiff, Nat.reduceAdd, Nat.reduceMul, Nat.reduceSub, Nat.reduceLeDiff, reduceCtorEq, Try.results36])
    | (with_reducible refine aw_if ?_; simp only [go_sem, reduceIte, Nat.reduceLT, Nat.reduceEqDiff, Nat.reduceAdd, Nat.reduceMul, Nat.reduceSub, Nat.reduceLeDiff, reduceCtorEq, Try.results36])
    | (with_reducible refine aw_block ?_)
    | (with_reducible refine aw_ret ?_; (try simp only [thenQ, blockQ]); refine aw_ret' ?_; simp only [go_sem, reduceIte, Nat.reduceLT, Nat.reduceEqDiff, Nat.reduceAdd, Nat.reduceMul, Nat.reduceSub, Nat.reduceLeDiff, reduceCtorEq, Try.results36])
    | (with_reducible refine aw_exit ?_; simp only [thenQ, blockQ, reduceIte, Nat.reduceEqDiff])
    | (with_reducible refine aw_skip ?_; simp only [thenQ, blockQ])
    | (with_reducible refine gate_intro (fun h => ?_) (fun h => ?_) <;> simp only [h, go_sem, reduceIte, Nat.reduceLT, Nat.reduceEqDiff, Nat.reduceAdd, Nat.reduceMul, Nat.reduceSub, Nat.reduceLeDiff, reduceCtorEq, Try.results36] <;> (try simp only [decide_eq_true_eq, decide_eq_false_iff_not, Bool.not_true] at h))
    | (with_reducible refine chk_in (by kernel_rfl) ?_)
    | (with_reducible refine And.intro (And.intro (by omega) (by omega)) ?_)
    | (with_reducible refine And.intro (by omega) ?_)
    | (rw [get_in]; rotate_left; omega; simp only [go_sem, reduceIte, Nat.reduceLT, Nat.reduceEqDiff, Nat.reduceAdd, Nat.reduceMul, Nat.reduceSub, Nat.reduceLeDiff, reduceCtorEq, Try.results36])
    | fail)
  refine pick_call rfl t wildL (M' := memOf [(9, Ent.row 1 (wildL.map fun x => [i64 x]) false), (9, Ent.row 1 (wildL.map fun x => [i64 x]) true), (0, Ent.cells (tpD t))]) rfl rfl rfl h1 (by decide) rfl ?_
  repeat' (first
    | (with_reducible refine aw_seq ?_)
    | (with_reducible refine kont_in ?_; simp only [go_sem, reduceIte, Nat.reduceLT, Nat.reduceEqDiff, Nat.reduceAdd, Nat.reduceMul, Nat.reduceSub, Nat.reduceLeDiff, reduceCtorEq, Try.results36])
    | (with_reducible refine dKont_in ?_; simp only [go_sem, reduceIte, Nat.reduceLT, Nat.reduceEqDiff, Nat.reduceAdd, Nat.reduceMul, Nat.reduceSub, Nat.reduceLeDiff, reduceCtorEq, Try.results36])
    | (with_reducible refine aw_drw (by kernel_rfl) hK kDet_nil ?_; simp only [go_sem, reduceIte, Nat.reduceLT, Nat.reduceEqDiff, Nat.reduceAdd, Nat.reduceMul, Nat.reduceSub, Nat.reduceLeDiff, reduceCtorEq, Try.results36])
    | (with_reducible refine aw_reg hK ?_; simp only [go_sem, reduceIte, Nat.reduceLT, Nat.reduceEqDiff, Nat.reduceAdd, Nat.reduceMul, Nat.reduceSub, Nat.reduceLeDiff, reduceCtorEq, Try.results36])
    | (with_reducible refine aw_if ?_; simp only [go_sem, reduceIte, Nat.reduceLT, Nat.reduceEqDiff, Nat.reduceAdd, Nat.reduceMul, Nat.reduceSub, Nat.reduceLeDiff, reduceCtorEq, Try.results36])
    | (with_reducible refine aw_block ?_)
    | (with_reducible refine aw_ret ?_; (try simp only [thenQ, blockQ]); refine aw_ret' ?_; simp only [go_sem, reduceIte, Nat.reduceLT, Nat.reduceEqDiff, Nat.reduceAdd, Nat.reduceMul, Nat.reduceSub, Nat.reduceLeDiff, reduceCtorEq, Try.results36])
    | (with_reducible refine aw_exit ?_; simp only [thenQ, blockQ, reduceIte, Nat.reduceEqDiff])
    | (with_reducible refine aw_skip ?_; simp only [thenQ, blockQ])
    | (with_reducible refine gate_intro (fun h => ?_) (fun h => ?_) <;> simp only [h, go_sem, reduceIte, Nat.reduceLT, Nat.reduceEqDiff, Nat.reduceAdd, Nat.reduceMul, Nat.reduceSub, Nat.reduceLeDiff, reduceCtorEq, Try.results36] <;> (try simp only [decide_eq_true_eq, decide_eq_false_iff_not, Bool.not_true] at h))
    | (with_reducible refine chk_in (by kernel_rfl) ?_)
    | (with_reducible refine And.intro (And.intro (by omega) (by omega)) ?_)
    | (with_reducible refine And.intro (by omega) ?_)
    | (rw [get_in]; rotate_left; omega; simp only [go_sem, reduceIte, Nat.reduceLT, Nat.reduceEqDiff, Nat.reduceAdd, Nat.reduceMul, Nat.reduceSub, Nat.reduceLeDiff, reduceCtorEq, Try.results36])
    | fail)
  all_goals (simp only [tpD, slI, go_sem, reduceIte, Nat.reduceLT, Nat.reduceEqDiff, Nat.reduceAdd, Nat.reduceMul, Nat.reduceSub, Nat.reduceLeDiff, reduceCtorEq])

theorem tp_frz (np : Nat) (M : Mem) (t : Tp) : frzL np M (tpD t) = M := rfl
/-- A new tape. -/
def newT (l : List Int) : Tp := (l.take 600, 0)
abbrev newC : Con where
  α := List Int
  kinds := [false]
  args := fun a => [.d (slI a)]
  pre := fun a => a.length ≤ 9223372036854775807
  post := fun a r => r = ⟨[.nbox (tpD (newT a))], []⟩
  clean := false
theorem new_ok : CallOk Try.prog 12 newC := by
  refine ok_of_body' 11 1 Try.func12 rfl (by decide) Try.ntmps12 (by intro a h; exact ⟨rfl, rfl⟩) (by decide) (by intro h; cases h) ?_
  rintro (l : List Int) h1
  simp only [newC] at h1 ⊢
  simp only [initE, initMm, List.length_cons, List.length_nil, Nat.reduceAdd]
  simp only [slI]
  by_cases hl : l.length ≤ 600
  · have hc : decide ((l.length : Int) > 600) = false := by simp; omega
    repeat' (first
    | (with_reducible refine aw_seq ?_)
    | (with_reducible refine kont_in ?_; simp only [go_sem, reduceIte, Nat.reduceLT, Nat.reduceEqDiff, Nat.reduceAdd, Nat.reduceMul, Nat.reduceSub, Nat.reduceLeDiff, reduceCtorEq, hc, Try.results12])
    | (with_reducible refine dKont_in ?_; simp only [go_sem, reduceIte, Nat.reduceLT, Nat.reduceEqDiff, Nat.reduceAdd, Nat.reduceMul, Nat.reduceSub, Nat.reduceLeDiff, reduceCtorEq, hc, Try.results12])
    | (with_reducible refine aw_drw (by kernel_rfl) kOk_nil kDet_nil ?_; simp only [go_sem, reduceIte, Nat.reduceLT, Nat.reduceEqDiff, Nat.reduceAdd, Nat.reduceMul, Nat.reduceSub, Nat.reduceLeDiff, reduceCtorEq, hc, Try.results12])
    | (with_reducible refine aw_reg kOk_nil ?_; simp only [go_sem, reduceIte, Nat.reduceLT, Nat.reduceEqDiff, Nat.reduceAdd, Nat.reduceMul, Nat.reduceSub, Nat.reduceLeDiff, reduceCtorEq, hc, Try.results12])
    | (with_reducible refine aw_if ?_; simp only [go_sem, reduceIte, Nat.reduceLT, Nat.reduceEqDiff, Nat.reduceAdd, Nat.reduceMul, Nat.reduceSub, Nat.reduceLeDiff, reduceCtorEq, hc, Try.results12])
    | (with_reducible refine aw_block ?_)
    | (with_reducible refine aw_ret ?_; (try simp only [thenQ, blockQ]); refine aw_ret' ?_; simp only [go_sem, reduceIte, Nat.reduceLT, Nat.reduceEqDiff, Nat.reduceAdd, Nat.reduceMul, Nat.reduceSub, Nat.reduceLeDiff, reduceCtorEq, hc, Try.results12])
    | (with_reducible refine aw_exit ?_; simp only [thenQ, blockQ, reduceIte, Nat.reduceEqDiff])
    | (with_reducible refine aw_skip ?_; simp only [thenQ, blockQ])
    | (with_reducible refine gate_intro (fun h => ?_) (fun h => ?_) <;> simp only [h, go_sem, reduceIte, Nat.reduceLT, Nat.reduceEqDiff, Nat.reduceAdd, Nat.reduceMul, Nat.reduceSub, Nat.reduceLeDiff, reduceCtorEq, hc, Try.results12] <;> (try simp only [decide_eq_true_eq, decide_eq_false_iff_not, Bool.not_true] at h))
    | (with_reducible refine chk_in (by kernel_rfl) ?_)
    | (with_reducible refine And.intro (And.intro (by omega) (by omega)) ?_)
    | (with_reducible refine And.intro (by omega) ?_)
    | (rw [get_in]; rotate_left; omega; simp only [go_sem, reduceIte, Nat.reduceLT, Nat.reduceEqDiff, Nat.reduceAdd, Nat.reduceMul, Nat.reduceSub, Nat.reduceLeDiff, reduceCtorEq, hc, Try.results12])
    | fail)
    all_goals (simp [tpD, newT, slI, List.take_of_length_le hl])
  · have hc : decide ((l.length : Int) > 600) = true := by simp; omega
    repeat' (first
    | (with_reducible refine aw_seq ?_)
    | (with_reducible refine kont_in ?_; simp only [go_sem, reduceIte, Nat.reduceLT, Nat.reduceEqDiff, Nat.reduceAdd, Nat.reduceMul, Nat.reduceSub, Nat.reduceLeDiff, reduceCtorEq, hc, Try.results12])
    | (with_reducible refine dKont_in ?_; simp only [go_sem, reduceIte, Nat.reduceLT, Nat.reduceEqDiff, Nat.reduceAdd, Nat.reduceMul, Nat.reduceSub, Nat.reduceLeDiff, reduceCtorEq, hc, Try.results12])
    | (with_reducible refine aw_drw (by kernel_rfl) kOk_nil kDet_nil ?_; simp only [go_sem, reduceIte, Nat.reduceLT, Nat.reduceEqDiff, Nat.reduceAdd, Nat.reduceMul, Nat.reduceSub, Nat.reduceLeDiff, reduceCtorEq, hc, Try.results12])
    | (with_reducible refine aw_reg kOk_nil ?_; simp only [go_sem, reduceIte, Nat.reduceLT, Nat.reduceEqDiff, Nat.reduceAdd, Nat.reduceMul, Nat.reduceSub, Nat.reduceLeDiff, reduceCtorEq, hc, Try.results12])
    | (with_reducible refine aw_if ?_; simp only [go_sem, reduceIte, Nat.reduceLT, Nat.reduceEqDiff, Nat.reduceAdd, Nat.reduceMul, Nat.reduceSub, Nat.reduceLeDiff, reduceCtorEq, hc, Try.results12])
    | (with_reducible refine aw_block ?_)
    | (with_reducible refine aw_ret ?_; (try simp only [thenQ, blockQ]); refine aw_ret' ?_; simp only [go_sem, reduceIte, Nat.reduceLT, Nat.reduceEqDiff, Nat.reduceAdd, Nat.reduceMul, Nat.reduceSub, Nat.reduceLeDiff, reduceCtorEq, hc, Try.results12])
    | (with_reducible refine aw_exit ?_; simp only [thenQ, blockQ, reduceIte, Nat.reduceEqDiff])
    | (with_reducible refine aw_skip ?_; simp only [thenQ, blockQ])
    | (with_reducible refine gate_intro (fun h => ?_) (fun h => ?_) <;> simp only [h, go_sem, reduceIte, Nat.reduceLT, Nat.reduceEqDiff, Nat.reduceAdd, Nat.reduceMul, Nat.reduceSub, Nat.reduceLeDiff, reduceCtorEq, hc, Try.results12] <;> (try simp only [decide_eq_true_eq, decide_eq_false_iff_not, Bool.not_true] at h))
    | (with_reducible refine chk_in (by kernel_rfl) ?_)
    | (with_reducible refine And.intro (And.intro (by omega) (by omega)) ?_)
    | (with_reducible refine And.intro (by omega) ?_)
    | (rw [get_in]; rotate_left; omega; simp only [go_sem, reduceIte, Nat.reduceLT, Nat.reduceEqDiff, Nat.reduceAdd, Nat.reduceMul, Nat.reduceSub, Nat.reduceLeDiff, reduceCtorEq, hc, Try.results12])
    | fail)
    all_goals (simp [tpD, newT, slI])
end Go.Proofs.R1

/- Small functions over lists. -/
set_option linter.unusedVariables false
set_option linter.unusedSimpArgs false
set_option maxRecDepth 8000
namespace Go.Proofs.R1
open Go Go.Abs

theorem wrS {i : Nat} (h : i + 1 ≤ 9223372036854775807) : IntKind.i64.wrap ((i : Int) + 1) = ((i + 1 : Nat) : Int) := by rw [wr64 (by omega) (by omega)]; rfl

def dispS (a b : St) (x y : Int) : Bool := a.2.1 == b.2.1 && a.2.2 == b.2.2 && (a.1 != b.1 || x != y)
def disputesC : Con where
  α := St × St × Int × Int
  kinds := [false, false, false, false]
  args := fun a => [.d (.agg (stD a.1)), .d (.agg (stD a.2.1)), .d (i64 a.2.2.1), .d (i64 a.2.2.2)]
  pre := fun a => True
  post := fun a r => r = ⟨[.d (bl (dispS a.1 a.2.1 a.2.2.1 a.2.2.2))], []⟩
  clean := true
theorem disputes_ok : CallOk Try.prog 73 disputesC := by
  refine ok_of_body' 33 4 Try.func73 rfl (by decide) Try.ntmps73 (by intro a h; exact ⟨rfl, rfl⟩) (by decide) (by rintro _ a r _ rfl; rfl) ?_
  rintro ⟨⟨a, b, c⟩, ⟨d, e, f⟩, x, y⟩ hn
  simp only [disputesC, stD] at hn ⊢
  simp only [initE, initMm, List.length_cons, List.length_nil, Nat.reduceAdd]
  repeat' (first
    | (with_reducible refine aw_seq ?_)
    | (with_reducible refine kont_in ?_; simp only [go_sem, reduceIte, Nat.reduceLT, Nat.reduceEqDiff, Nat.reduceAdd, Nat.reduceMul, Nat.reduceSub, Nat.reduceLeDiff, reduceCtorEq, Try.results73])
    | (with_reducible refine dKont_in ?_; simp only [go_sem, reduceIte, Nat.reduceLT, Nat.reduceEqDiff, Nat.reduceAdd, Nat.reduceMul, Nat.reduceSub, Nat.reduceLeDiff, reduceCtorEq, Try.results73])
    | (with_reducible refine aw_drw (by kernel_rfl) kOk_nil kDet_nil ?_; simp only [go_sem, reduceIte, Nat.reduceLT, Nat.reduceEqDiff, Nat.reduceAdd, Nat.reduceMul, Nat.reduceSub, Nat.reduceLeDiff, reduceCtorEq, Try.results73])
    | (with_reducible refine aw_reg kOk_nil ?_; simp only [go_sem, reduceIte, Nat.reduceLT, Nat.reduceEqDiff, Nat.reduceAdd, Nat.reduceMul, Nat.reduceSub, Nat.reduceLeDiff, reduceCtorEq, Try.results73])
    | (with_reducible refine aw_if ?_; simp only [go_sem, reduceIte, Nat.reduceLT, Nat.reduceEqDiff, Nat.reduceAdd, Nat.reduceMul, Nat.reduceSub, Nat.reduceLeDiff, reduceCtorEq, Try.results73])
    | (with_reducible refine aw_block ?_)
    | (with_reducible refine aw_ret ?_; (try simp only [thenQ, blockQ]); refine aw_ret' ?_; simp only [go_sem, reduceIte, Nat.reduceLT, Nat.reduceEqDiff, Nat.reduceAdd, Nat.reduceMul, Nat.reduceSub, Nat.reduceLeDiff, reduceCtorEq, Try.results73])
    | (with_reducible refine aw_exit ?_; simp only [thenQ, blockQ, reduceIte, Nat.reduceEqDiff])
    | (with_reducible refine aw_skip ?_; simp only [thenQ, blockQ])
    | (with_reducible refine gate_intro (fun h => ?_) (fun h => ?_) <;> simp only [h, go_sem, reduceIte, Nat.reduceLT, Nat.reduceEqDiff, Nat.reduceAdd, Nat.reduceMul, Nat.reduceSub, Nat.reduceLeDiff, reduceCtorEq, Try.results73] <;> (try simp only [decide_eq_true_eq, decide_eq_false_iff_not, Bool.not_true] at h))
    | (with_reducible refine chk_in (by kernel_rfl) ?_)
    | (with_reducible refine And.intro (And.intro (by omega) (by omega)) ?_)
    | (with_reducible refine And.intro (by omega) ?_)
    | (rw [get_in]; rotate_left; omega; simp only [go_sem, reduceIte, Nat.reduceLT, Nat.reduceEqDiff, Nat.reduceAdd, Nat.reduceMul, Nat.reduceSub, Nat.reduceLeDiff, reduceCtorEq, Try.results73])
    | fail)
  all_goals (simp_all [dispS])

def stL (l : List St) : D := .sl 3 (l.map stD)
def sameC : Con where
  α := List Int × List Int
  kinds := [false, false]
  args := fun a => [.d (slI a.1), .d (slI a.2)]
  pre := fun a => a.1.length ≤ 9223372036854775807
  post := fun a r => r = ⟨[.d (bl (decide (a.1 = a.2)))], []⟩
  clean := true
def untilI (l : List St) (t : Int) : Nat := (l.takeWhile fun s => decide (s.1 ≤ t)).length
theorem untilI_at {l : List St} {t : Int} {i : Nat} (h : ∀ j s, j < i → l[j]? = some s → s.1 ≤ t) (hi : i ≤ l.length) : untilI l t = i + untilI (l.drop i) t := by
  induction i generalizing l with
  | zero => simp
  | succ i ih =>
    cases l with
    | nil => simp at hi
    | cons s l =>
      have h0 := h 0 s (by omega) rfl
      have := ih (l := l) (fun j s hj hs => h (j + 1) s (by omega) (by simpa using hs)) (by simpa using hi)
      simp only [untilI, List.takeWhile_cons, h0, decide_true, if_true, List.length_cons, List.drop_succ_cons] at this ⊢
      omega
def untilC : Con where
  α := List St × Int
  kinds := [false, false]
  args := fun a => [.d (stL a.1), .d (i64 a.2)]
  pre := fun a => a.1.length ≤ 9223372036854775807
  post := fun a r => r = ⟨[.d (i64 (untilI a.1 a.2))], []⟩
  clean := true
def befS (a b : Int × Int) : Bool := decide (a.1 < b.1) || a.1 == b.1 && decide (a.2 < b.2)
def idD (a : Int × Int) : List D := [i64 a.1, i64 a.2]
def beforeC : Con where
  α := (Int × Int) × (Int × Int)
  kinds := [false, false]
  args := fun a => [.d (.agg (idD a.1)), .d (.agg (idD a.2))]
  pre := fun a => True
  post := fun a r => r = ⟨[.d (bl (befS a.1 a.2))], []⟩
  clean := true
end Go.Proofs.R1

/- The tape's stamps. -/
set_option linter.unusedVariables false
set_option linter.unusedSimpArgs false
set_option maxRecDepth 8000
set_option maxHeartbeats 4000000
namespace Go.Proofs.R1
open Go Go.Abs

theorem tp_fz (M : Mem) (t : Tp) : mapO (fz M false 1) (tpD t) = some (tpD t) := rfl
theorem wild_call {K : Kt} (hk : K 36 = some wildC) {np fid id : Nat} {M : Mem} {nx : D → Mem → Prop} (t : Tp) (hm : M id = some (.cells (tpD t))) (hp : tpOk t) (hf : M fid = none)
    (hn : nx (i64 (pickI t wildL)) (upd M id (some (.cells (tpD (raw t).2))))) : semCall K np 36 [.box id 0] M fid nx :=
  call_io hk rfl rfl (fun _ _ h => h) t (by simp [nf, hm, tpD, slI, nf0]) rfl (by simp [wildC, argsF, ioArg, hm, consAD, tpD, slI, mapO, fz, fz0]) hp hf hn

/-- Some stamp, and the tape behind it. -/
abbrev stampC : Con where
  α := Tp × Int
  kinds := [true, false]
  args := fun a => [.io (tpD a.1), .d (i64 a.2)]
  pre := fun a => tpOk a.1 ∧ 0 ≤ a.2 ∧ a.2 ≤ 1000000
  post := fun a r => ∃ (s : St) (t : Tp), tpOk t ∧ r = ⟨[.d (.agg (stD s))], [tpD t]⟩
  clean := false
theorem stampT_ok : CallOk Try.prog 37 stampC := by
  refine ok_of_body' 36 2 Try.func37 rfl (by decide) Try.ntmps37 (by intro a h; exact ⟨rfl, rfl⟩) (by decide) (by intro h; cases h) ?_
  rintro ⟨t, n⟩ ⟨h1, h2, h3⟩
  simp only [stampC] at h1 h2 h3 ⊢
  simp only [initE, initMm, List.length_cons, List.length_nil, Nat.reduceAdd]
  have hK : KOk Try.prog (kOf [(25, rangeC), (21, oneC), (16, nextC), (36, wildC)]) := kOk_cons range_ok' (kOk_cons one_ok (kOk_cons next_ok' (kOk_cons wild_ok kOk_nil)))
  have o1 := raw_ok h1
  have o2 := raw_ok o1
  have o3 := raw_ok o2
  have o4 := raw_ok o3
  have o5 := raw_ok o4
  have o6 := raw_ok o5
  repeat' (first
    | (with_reducible refine aw_seq ?_)
    | (with_reducible refine kont_in ?_; simp only [go_sem, reduceIte, Nat.reduceLT, Nat.reduceEqDiff, Nat.reduceAdd, Nat.reduceMul, Nat.reduceSub, Nat.reduceLeDiff, reduceCtorEq, tp_frz, tp_fz, Try.results37])
    | (with_reducible refine dKont_in ?_; simp only [go_sem, reduceIte, Nat.reduceLT, Nat.reduceEqDiff, Nat.reduceAdd, Nat.reduceMul, Nat.reduceSub, Nat.reduceLeDiff, reduceCtorEq, tp_frz, tp_fz, Try.results37])
    | (with_reducible refine aw_drw (by kernel_rfl) hK kDet_nil ?_; simp only [go_sem, reduceIte, Nat.reduceLT, Nat.reduceEqDiff, Nat.reduceAdd, Nat.reduceMul, Nat.reduceSub, Nat.reduceLeDiff, reduceCtorEq, tp_frz, tp_fz, Try.results37])
    | (with_reducible refine aw_reg hK ?_; simp only [go_sem, reduceIte, Nat.reduceLT, Nat.reduceEqDiff, Nat.reduceAdd, Nat.reduceMul, Nat.reduceSub, Nat.reduceLeDiff, reduceCtorEq, tp_frz, tp_fz, Try.results37])
    | (with_reducible refine aw_if ?_; simp only [go_sem, reduceIte, Nat.reduceLT, Nat.reduceEqDiff, Nat.reduceAdd, Nat.reduceMul, Nat.reduceSub, Nat.reduceLeDiff, reduceCtorEq, tp_frz, tp_fz, Try.results37])
    | (with_reducible refine aw_block ?_)
    | (with_reducible refine aw_ret ?_; (try simp only [thenQ, blockQ]); refine aw_ret' ?_; simp only [go_sem, reduceIte, Nat.reduceLT, Nat.reduceEqDiff, Nat.reduceAdd, Nat.reduceMul, Nat.reduceSub, Nat.reduceLeDiff, reduceCtorEq, tp_frz, tp_fz, Try.results37])
    | (with_reducible refine aw_exit ?_; simp only [thenQ, blockQ, reduceIte, Nat.reduceEqDiff])
    | (with_reducible refine aw_skip ?_; simp only [thenQ, blockQ])
    | (with_reducible refine gate_intro (fun h => ?_) (fun h => ?_) <;> simp only [h, go_sem, reduceIte, Nat.reduceLT, Nat.reduceEqDiff, Nat.reduceAdd, Nat.reduceMul, Nat.reduceSub, Nat.reduceLeDiff, reduceCtorEq, tp_frz, tp_fz, Try.results37] <;> (try simp only [decide_eq_true_eq, decide_eq_false_iff_not, Bool.not_true] at h))
    | (with_reducible refine chk_in (by kernel_rfl) ?_)
    | (with_reducible refine And.intro (And.intro (by omega) (by omega)) ?_)
    | (with_reducible refine And.intro (by omega) ?_)
    | (refine range_call rfl t 0 24 rfl h1 (by omega) rfl ?_)
    | (refine range_call rfl _ 0 3 rfl o1 (by omega) rfl ?_)
    | (refine range_call rfl _ 0 9 rfl o2 (by omega) rfl ?_)
    | (refine one_call rfl _ n rfl o3 (by omega) (by omega) rfl ?_)
    | (refine tp_call (f := 16) rfl _ 3 rfl o4 (by omega) rfl ?_)
    | (refine wild_call rfl _ rfl o5 rfl ?_)
    | (rw [get_in]; rotate_left; omega; simp only [go_sem, reduceIte, Nat.reduceLT, Nat.reduceEqDiff, Nat.reduceAdd, Nat.reduceMul, Nat.reduceSub, Nat.reduceLeDiff, reduceCtorEq, tp_frz, tp_fz, Try.results37])
    | fail)
  all_goals first | exact ⟨(_, _, _), _, o6, rfl⟩ | exact ⟨(_, _, _), _, o4, rfl⟩ | exact ⟨(_, _, _), _, o3, rfl⟩
end Go.Proofs.R1

/- The comparisons that sorts are given. -/
set_option linter.unusedVariables false
set_option linter.unusedSimpArgs false
set_option maxRecDepth 8000
set_option maxHeartbeats 4000000
namespace Go.Proofs.R1
open Go Go.Abs

def stAt (l : List St) (i : Nat) : St := (l[i]?).getD (0, 0, 0)
def byStampC : Con where
  α := List St × Nat × Nat
  kinds := [false, false, false]
  args := fun a => [.d (i64 a.2.1), .d (i64 a.2.2), .d (.rp 1 [[stL a.1]] 0 0)]
  pre := fun a => a.2.1 < a.1.length ∧ a.2.2 < a.1.length
  post := fun a r => r = ⟨[.d (i64 (cmpS (stAt a.1 a.2.1) (stAt a.1 a.2.2)))], []⟩
  clean := true
theorem compare_call {K : Kt} (hk : K 71 = some compareC) {np fid : Nat} {M : Mem} {nx : D → Mem → Prop} (s t : St) {d e : D} (hd : d = .agg (stD s)) (he : e = .agg (stD t)) (hf : M fid = none) (hn : nx (i64 (cmpS s t)) M) : semCall K np 71 [d, e] M fid nx := by
  subst hd; subst he
  exact call_fn hk rfl rfl (fun _ _ h => h) (s, t) rfl trivial hf hn
theorem byStamp_ok : CallOk Try.prog 70 byStampC := by
  refine ok_of_body' 15 3 Try.func70 rfl (by decide) Try.ntmps70 (by intro a h; exact ⟨rfl, rfl⟩) (by decide) (by rintro _ a r _ rfl; rfl) ?_
  rintro ⟨l, i, j⟩ ⟨hi, hj⟩
  simp only [byStampC] at hi hj ⊢
  simp only [initE, initMm, List.length_cons, List.length_nil, Nat.reduceAdd]
  have hK : KOk Try.prog (kOf [(71, compareC)]) := kOk_cons compare_ok kOk_nil
  have hD : KDet (kOf [(71, compareC)]) := kDet_cons (fun _ _ => ⟨_, rfl, by simp, fun _ h => h⟩) kDet_nil
  have s1 : compareC.srt = none := rfl
  have c1 : compareC.clean = true := rfl
  obtain ⟨⟨a, b, c⟩, hx⟩ : ∃ x, l[i]? = some x := ⟨_, List.getElem?_eq_getElem hi⟩
  obtain ⟨⟨d, e, f⟩, hy⟩ : ∃ x, l[j]? = some x := ⟨_, List.getElem?_eq_getElem hj⟩
  simp only [stL]
  repeat' (first
    | (with_reducible refine aw_seq ?_)
    | (with_reducible refine kont_in ?_; simp only [go_sem, reduceIte, Nat.reduceLT, Nat.reduceEqDiff, Nat.reduceAdd, Nat.reduceMul, Nat.reduceSub, Nat.reduceLeDiff, reduceCtorEq, s1, c1, hx, hy, stD, Try.results70])
    | (with_reducible refine dKont_in ?_; simp only [go_sem, reduceIte, Nat.reduceLT, Nat.reduceEqDiff, Nat.reduceAdd, Nat.reduceMul, Nat.reduceSub, Nat.reduceLeDiff, reduceCtorEq, s1, c1, hx, hy, stD, Try.results70])
    | (with_reducible refine aw_drw (by kernel_rfl) hK hD ?_; simp only [go_sem, reduceIte, Nat.reduceLT, Nat.reduceEqDiff, Nat.reduceAdd, Nat.reduceMul, Nat.reduceSub, Nat.reduceLeDiff, reduceCtorEq, s1, c1, hx, hy, stD, Try.results70])
    | (with_reducible refine aw_reg hK ?_; simp only [go_sem, reduceIte, Nat.reduceLT, Nat.reduceEqDiff, Nat.reduceAdd, Nat.reduceMul, Nat.reduceSub, Nat.reduceLeDiff, reduceCtorEq, s1, c1, hx, hy, stD, Try.results70])
    | (with_reducible refine aw_if ?_; simp only [go_sem, reduceIte, Nat.reduceLT, Nat.reduceEqDiff, Nat.reduceAdd, Nat.reduceMul, Nat.reduceSub, Nat.reduceLeDiff, reduceCtorEq, s1, c1, hx, hy, stD, Try.results70])
    | (with_reducible refine aw_block ?_)
    | (with_reducible refine aw_ret ?_; (try simp only [thenQ, blockQ]); refine aw_ret' ?_; simp only [go_sem, reduceIte, Nat.reduceLT, Nat.reduceEqDiff, Nat.reduceAdd, Nat.reduceMul, Nat.reduceSub, Nat.reduceLeDiff, reduceCtorEq, s1, c1, hx, hy, stD, Try.results70])
    | (with_reducible refine aw_exit ?_; simp only [thenQ, blockQ, reduceIte, Nat.reduceEqDiff])
    | (with_reducible refine aw_skip ?_; simp only [thenQ, blockQ])
    | (with_reducible refine gate_intro (fun h => ?_) (fun h => ?_) <;> simp only [h, go_sem, reduceIte, Nat.reduceLT, Nat.reduceEqDiff, Nat.reduceAdd, Nat.reduceMul, Nat.reduceSub, Nat.reduceLeDiff, reduceCtorEq, s1, c1, hx, hy, stD, Try.results70] <;> (try simp only [decide_eq_true_eq, decide_eq_false_iff_not, Bool.not_true] at h))
    | (with_reducible refine chk_in (by kernel_rfl) ?_)
    | (with_reducible refine And.intro (And.intro (by omega) (by omega)) ?_)
    | (with_reducible refine And.intro (by omega) ?_)
    | (refine compare_call rfl (a, b, c) (d, e, f) rfl rfl rfl ?_)
    | (rw [get_in]; rotate_left; omega; simp only [go_sem, reduceIte, Nat.reduceLT, Nat.reduceEqDiff, Nat.reduceAdd, Nat.reduceMul, Nat.reduceSub, Nat.reduceLeDiff, reduceCtorEq, s1, c1, hx, hy, stD, Try.results70])
    | fail)
  all_goals (simp [stAt, hx, hy])

def byIdC : Con where
  α := (Int × Int) × (Int × Int)
  kinds := [false, false]
  args := fun a => [.d (.agg (idD a.1)), .d (.agg (idD a.2))]
  pre := fun a => True
  post := fun a r => r = ⟨[.d (i64 (firstNZ [ordI a.1.1 a.2.1, ordI a.1.2 a.2.2]))], []⟩
  clean := true
end Go.Proofs.R1
