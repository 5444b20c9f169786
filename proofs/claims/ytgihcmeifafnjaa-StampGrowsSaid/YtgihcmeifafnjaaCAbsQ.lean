/- The abstract machine, seventeenth part: every operation depends on what it touches alone. -/
import Derived.Test.YtgihcmeifafnjaaCAbsP
set_option linter.unusedVariables false
set_option linter.unusedSimpArgs false
namespace Go.Abs
open Go

theorem mem_ids0 {d : D} : ∀ {id : Nat}, (d = .row id ∨ (∃ o n, d = .vw id o n) ∨ (∃ i o, d = .elt id i o) ∨ (∃ o, d = .box id o)) → id ∈ ids0 d := by
  rintro id (rfl | ⟨_, _, rfl⟩ | ⟨_, _, rfl⟩ | ⟨_, rfl⟩) <;> simp [ids0]

section pure
variable {P : Program} {M : Mem} {nx : D → Mem → Prop}

/-- An operation that does not look at memory. -/
def PureAt (f : Mem → (D → Mem → Prop) → Prop) (M : Mem) (nx : D → Mem → Prop) : Prop := ∃ d, nx d M ∧ ∀ N (nx' : D → Mem → Prop), nx' d N → f N nx'
theorem PureAt.loc {f : Mem → (D → Mem → Prop) → Prop} (h : PureAt f M nx) : LocAt [] [] f M nx := by
  obtain ⟨d, h1, h2⟩ := h
  exact .read d h1 fun N _ nx' hn => h2 N nx' hn

theorem pure_pick {c a b : D} (h : semPick c a b M nx) : PureAt (semPick c a b) M nx := by
  unfold semPick at *
  split at h
  · rename_i t
    cases t
    · exact ⟨b, h.2 rfl, fun N nx' hn => ⟨by simp, fun _ => hn⟩⟩
    · exact ⟨a, h.1 rfl, fun N nx' hn => ⟨fun _ => hn, by simp⟩⟩
  · exact h.elim
theorem pure_cell {cs : List D} {off : Nat} (h : getCell cs off M nx) : PureAt (getCell cs off) M nx := by
  unfold getCell at *
  split at h
  · rename_i x hx; exact ⟨x, h, fun N nx' hn => by simp only [hx]; exact hn⟩
  · exact h.elim
theorem pure_cells {ag : Bool} {n : Nat} {cs : List D} {off : Nat} (h : getCells ag n cs off M nx) : PureAt (getCells ag n cs off) M nx := by
  unfold getCells at *
  split at h
  · rename_i hc; exact ⟨_, h.2, fun N nx' hn => by simp only [hc, if_true]; exact ⟨h.1, hn⟩⟩
  · rename_i hc
    obtain ⟨d, h1, h2⟩ := pure_cell h
    exact ⟨d, h1, fun N nx' hn => by simp only [hc]; exact h2 N nx' hn⟩
theorem pure_build {t : TypeId} {parts : List (Nat × D)} (h : semBuildT P t parts M nx) : PureAt (semBuildT P t parts) M nx := by
  unfold semBuildT at *
  obtain ⟨h0, h⟩ := h
  split at h
  · rename_i zs pl hz hp
    obtain ⟨h1, h⟩ := h
    split at h
    · rename_i cs hcs; exact ⟨_, h, fun N nx' hn => by simp only [hcs]; exact ⟨h0, h1, hn⟩⟩
    · exact h.elim
  · exact h.elim
theorem pure_nil {x : D} (h : semNil x M nx) : PureAt (semNil x) M nx := by
  unfold semNil at *
  cases x <;> first | exact h.elim | exact ⟨_, h, fun N nx' hn => hn⟩
theorem pure_binV {op : BinOp} {t : TypeId} {x y : Value} (h : semBinV P op t x y M nx) : PureAt (semBinV P op t x y) M nx := by
  unfold semBinV at h
  split at h
  · exact ⟨_, h.2.2, fun N nx' hn => by simp only [semBinV]; exact ⟨h.1, h.2.1, hn⟩⟩
  · exact ⟨_, h.2.2, fun N nx' hn => by simp only [semBinV]; exact ⟨h.1, h.2.1, hn⟩⟩
  · exact ⟨_, h.2, fun N nx' hn => by simp only [semBinV]; exact ⟨h.1, hn⟩⟩
  · exact ⟨_, h.2, fun N nx' hn => by simp only [semBinV]; exact ⟨h.1, hn⟩⟩
  · obtain ⟨hk, h⟩ := h
    split at h
    · rename_i n1 n2 n3 n4 v hv
      refine ⟨_, h, fun N nx' hn => ?_⟩
      unfold semBinV
      split <;> first | (simp_all; done) | (simp_all; rename_i hx; exact hx _ _ _ _ rfl rfl rfl rfl)
    · exact h.elim
  · exact ⟨_, h.2, fun N nx' hn => by simp only [semBinV]; exact ⟨h.1, hn⟩⟩
  · exact ⟨_, h.2, fun N nx' hn => by simp only [semBinV]; exact ⟨h.1, hn⟩⟩
  · exact ⟨_, h, fun N nx' hn => hn⟩
  · exact ⟨_, h, fun N nx' hn => hn⟩
  · exact ⟨_, h.2, fun N nx' hn => ⟨h.1, hn⟩⟩
  · exact h.elim
theorem pure_bin {op : BinOp} {t : TypeId} {x y : D} (h : semBin P op t x y M nx) : PureAt (semBin P op t x y) M nx := by
  unfold semBin at h
  split at h
  · exact pure_binV h
  · rename_i ds es
    obtain ⟨hE, h⟩ := h
    split at h
    · rename_i b hb; exact ⟨_, h, fun N nx' hn => by simp only [semBin, hb]; exact ⟨hE, hn⟩⟩
    · rename_i b hb; exact ⟨_, h, fun N nx' hn => by simp only [semBin, hb]; exact ⟨hE, hn⟩⟩
    · exact h.elim
  · exact h.elim
theorem pure_un {op : UnOp} {x : D} (h : semUn op x M nx) : PureAt (semUn op x) M nx := by
  unfold semUn at h
  split at h <;> first | exact h.elim | exact ⟨_, h, fun N nx' hn => hn⟩
theorem pure_conv {s d : TypeId} {x : D} (h : semConv P s d x M nx) : PureAt (semConv P s d x) M nx := by
  unfold semConv at h
  split at h
  · rename_i k kk n hk; exact ⟨_, h.2, fun N nx' hn => by simp only [semConv, hk]; exact ⟨h.1, hn⟩⟩
  · exact h.elim
theorem pure_makeFunc {fn : Fn} {f c : List D} (h : semMakeFunc fn f c M nx) : PureAt (semMakeFunc fn f c) M nx := by
  unfold semMakeFunc at *
  split at h
  · exact ⟨_, h.2.2, fun N nx' hn => ⟨h.1, h.2.1, hn⟩⟩
  · exact h.elim
theorem pure_fieldAddr {t : TypeId} {x : D} {f : Nat} (h : semFieldAddr P t x f M nx) : PureAt (semFieldAddr P t x f) M nx := by
  unfold semFieldAddr at h
  split at h
  · rename_i fo ft hf
    obtain ⟨h0, h⟩ := h
    cases x <;> first | exact h.elim | exact ⟨_, h, fun N nx' hn => by simp only [semFieldAddr, hf]; exact ⟨h0, hn⟩⟩
  · exact h.elim
theorem pure_field {t : TypeId} {x : D} {f : Nat} (h : semField P t x f M nx) : PureAt (semField P t x f) M nx := by
  unfold semField at h
  split at h
  · rename_i fo ft cs hf
    split at h
    · rename_i ag n ha hn
      obtain ⟨d, h1, h2⟩ := pure_cells h
      exact ⟨d, h1, fun N nx' hx => by simp only [semField, hf, ha, hn]; exact h2 N nx' hx⟩
    · exact h.elim
  · exact h.elim
theorem pure_index {t : TypeId} {x i : D} (h : semIndex P t x i M nx) : PureAt (semIndex P t x i) M nx := by
  unfold semIndex at h
  split at h
  · rename_i k n s
    obtain ⟨h1, h2, ⟨h3, h4⟩, h5⟩ := h
    have hlt : n.toNat < s.size := by omega
    exact ⟨_, h5 hlt, fun N nx' hx => ⟨h1, h2, ⟨h3, h4⟩, fun _ => hx⟩⟩
  · exact h.elim
theorem pure_extract {t : D} {i : Nat} (h : semExtract t i M nx) : PureAt (semExtract t i) M nx := by
  unfold semExtract at h
  split at h
  · split at h
    · rename_i d hd; exact ⟨_, h, fun N nx' hn => by simp only [semExtract, hd]; exact hn⟩
    · exact h.elim
  · exact h.elim
theorem pure_mm {mx : Bool} {ds : List D} (h : semMM mx ds M nx) : PureAt (semMM mx ds) M nx := by
  unfold semMM at h
  split at h
  · split at h
    · rename_i r hr; exact ⟨_, h, fun N nx' hn => by simp only [semMM, hr]; exact hn⟩
    · exact h.elim
  · exact h.elim
end pure

section reads
variable {P : Program} {M : Mem} {nx : D → Mem → Prop}

theorem loc_load {t : TypeId} {p : D} (h : semLoad P t p M nx) : LocAt (ids0 p) [] (semLoad P t p) M nx := by
  unfold semLoad at h
  split at h
  · rename_i ag n ha hn
    split at h
    · rename_i id off
      split at h
      · rename_i cs hc
        obtain ⟨d, h1, h2⟩ := pure_cells h
        exact .read d h1 fun N hN nx' hx => by simp only [semLoad, ha, hn, hN id (by simp [ids0]), hc]; exact h2 N nx' hx
      · exact h.elim
    · rename_i id i off
      split at h
      · rename_i sz es ex hc
        split at h
        · rename_i e he
          obtain ⟨d, h1, h2⟩ := pure_cells h
          exact .read d h1 fun N hN nx' hx => by simp only [semLoad, ha, hn, hN id (by simp [ids0]), hc, he]; exact h2 N nx' hx
        · exact h.elim
      · exact h.elim
    · rename_i sz es i off
      split at h
      · rename_i e he
        obtain ⟨d, h1, h2⟩ := pure_cells h
        exact .read d h1 fun N hN nx' hx => by simp only [semLoad, ha, hn, he]; exact h2 N nx' hx
      · exact h.elim
    · exact h.elim
  · exact h.elim
theorem loc_indexAddr {t : TypeId} {x i : D} (h : semIndexAddr P t x i M nx) : LocAt (ids0 x) [] (semIndexAddr P t x i) M nx := by
  unfold semIndexAddr at h
  split at h
  · rename_i k n
    split at h
    · rename_i e he
      split at h
      · rename_i s sz es hs
        exact .read _ h.2.2 fun N hN nx' hx => by simp only [semIndexAddr, he, hs]; exact ⟨h.1, h.2.1, hx⟩
      · rename_i s id hs
        split at h
        · rename_i sz es ex hc
          exact .read _ h.2.2 fun N hN nx' hx => by simp only [semIndexAddr, he, hs, hN id (by simp [ids0]), hc]; exact ⟨h.1, h.2.1, hx⟩
        · exact h.elim
      · rename_i s id off k hs
        split at h
        · rename_i sz es ex hc
          exact .read _ h.2.2 fun N hN nx' hx => by simp only [semIndexAddr, he, hs, hN id (by simp [ids0]), hc]; exact ⟨h.1, h.2.1, hx⟩
        · exact h.elim
      · exact h.elim
    · rename_i len e he ha
      split at h
      · rename_i s hs
        obtain ⟨h0, h⟩ := h
        split at h <;> first
          | exact h.elim
          | exact .read _ h fun N hN nx' hx => by simp only [semIndexAddr, he, ha, hs]; exact ⟨h0, hx⟩
      · exact h.elim
    · exact h.elim
  · exact h.elim
theorem lenD_congr {N : Mem} {d : D} (h : agr (ids0 d) M N) : lenD N d = lenD M d := by
  unfold lenD; split <;> first | rfl | rw [rowsOf_congr h]
theorem loc_slice {t : TypeId} {x : D} {lo hi : Option D} (h : semSlice P t x lo hi M nx) : LocAt (ids0 x) [] (semSlice P t x lo hi) M nx := by
  unfold semSlice at h
  split at h
  · rename_i s
    obtain ⟨h0, h⟩ := h
    split at h
    · rename_i l hh h1 h2
      exact .read _ h.2 fun N hN nx' hx => by simp only [semSlice, h1, h2]; exact ⟨h0, h.1, hx⟩
    · exact h.elim
  · rename_i hns
    obtain ⟨h0, h⟩ := h
    split at h
    · rename_i n hn
      split at h
      · rename_i l hh h1 h2
        obtain ⟨hb, h⟩ := h
        have hlen : ∀ N, agr (ids0 x) M N → lenD N x = some n := fun N hN => by rw [lenD_congr hN]; exact hn
        split at h
        · exact .read _ h fun N hN nx' hx => by simp only [semSlice, hlen N hN, h1, h2]; exact ⟨h0, hb, hx⟩
        · exact .read _ h.2 fun N hN nx' hx => by simp only [semSlice, hlen N hN, h1, h2]; exact ⟨h0, hb, h.1, hx⟩
        · rename_i id
          exact .read _ h.2 fun N hN nx' hx => by simp only [semSlice, hlen N hN, h1, h2, hN id (by simp [ids0])]; exact ⟨h0, hb, h.1, hx⟩
        · rename_i id off k
          exact .read _ h.2 fun N hN nx' hx => by simp only [semSlice, hlen N hN, h1, h2, hN id (by simp [ids0])]; exact ⟨h0, hb, h.1, hx⟩
        · exact h.elim
      · exact h.elim
    · exact h.elim
theorem loc_len {t : TypeId} {x : D} (h : semLen P t x M nx) : LocAt (ids0 x) [] (semLen P t x) M nx := by
  unfold semLen at h
  split at h
  · exact .read _ h.2 fun N hN nx' hx => ⟨h.1, hx⟩
  · exact .read _ h.2 fun N hN nx' hx => ⟨h.1, hx⟩
  · rename_i h1 h2
    split at h
    · rename_i sz es hr
      refine .read _ h.2 fun N hN nx' hx => ?_
      unfold semLen
      split
      · rename_i s; simp [rowsOf] at hr
      · rename_i id off n; exact absurd rfl (h2 id off n)
      · rw [rowsOf_congr hN, hr]; exact ⟨h.1, hx⟩
    · exact h.elim
end reads

section fresh
variable {P : Program} {M : Mem} {nx : D → Mem → Prop} {fid np : Nat}

theorem agr_at {T : List Nat} {N : Mem} {i : Nat} (h : agr (T ++ [i]) M N) : N i = M i := h i (by simp)

theorem loc_alloc {t : TypeId} (h : semAlloc P t M fid nx) : LocAt [] [fid] (fun M => semAlloc P t M fid) M nx := by
  unfold semAlloc at h
  split at h
  · rename_i cs hc
    exact .write _ _ _ h.2.2 fun N hN nx' hx => by simp only [semAlloc, hc]; exact ⟨h.1, by rw [agr_at hN]; exact h.2.1, hx⟩
  · exact h.elim
theorem loc_box {d : D} (h : semBox d M fid nx) : LocAt [] [fid] (fun M => semBox d M fid) M nx :=
  .write _ _ _ h.2.2 fun N hN nx' hx => ⟨h.1, by rw [agr_at hN]; exact h.2.1, hx⟩
theorem loc_makeSlice {t : TypeId} {l c : D} (h : semMakeSlice P t l c M fid nx) : LocAt [] [fid] (fun M => semMakeSlice P t l c M fid) M nx := by
  unfold semMakeSlice at h
  split at h
  · rename_i k n k' m
    obtain ⟨hnm, h⟩ := h
    split at h
    · rename_i e he
      split at h
      · rename_i sz by' zs h1 h2 h3
        obtain ⟨a1, a2, a3, a4, a5, a6, h⟩ := h
        exact .write _ _ _ h fun N hN nx' hx => by simp only [semMakeSlice, he, h1, h2, h3]; exact ⟨hnm, a1, a2, a3, a4, a5, by rw [agr_at hN]; exact a6, hx⟩
      · exact h.elim
    · exact h.elim
  · exact h.elim
theorem bsD_congr {N : Mem} {sz : Nat} : ∀ (parts : List (Nat × D)) (es : List (List D)), (∀ p, p ∈ parts → mapO (fz N false 1) (cellsD p.2) = mapO (fz M false 1) (cellsD p.2)) → bsD N sz es parts = bsD M sz es parts
  | [], _, _ => rfl
  | (i, d) :: l, es, h => by
    simp only [bsD]
    rw [h (i, d) List.mem_cons_self]
    simp only [bsD_congr l _ fun p hp => h p (List.mem_cons_of_mem _ hp)]
theorem cells_fz_congr {N : Mem} {d : D} (h : agr (ids M 5 d) M N) : mapO (fz N false 1) (cellsD d) = mapO (fz M false 1) (cellsD d) := by
  refine mapO_congr fun x hx => ?_
  cases d with
  | agg cs => exact fz_congr 1 4 x (by omega) fun i hi => h i (by simp only [ids]; exact List.mem_flatMap.2 ⟨x, hx, hi⟩)
  | _ => simp only [cellsD, List.mem_singleton] at hx; subst hx; exact fz_congr 1 5 _ (by omega) h
theorem loc_buildSlice {t : TypeId} {len : Nat} {parts : List (Nat × D)} (hnf : (parts.map (·.2)).all (nf np M) = true) (h : semBuildSlice P np t len parts M fid nx) :
    LocAt ((parts.map (·.2)).flatMap (ids M 5)) [fid] (fun M => semBuildSlice P np t len parts M fid) M nx := by
  unfold semBuildSlice at h
  obtain ⟨h0, h⟩ := h
  split at h
  · rename_i e he
    split at h
    · rename_i sz zs h1 h2
      obtain ⟨a1, a2, a3, a4, a5, h⟩ := h
      rw [nfA_eq hnf] at h
      split at h
      · rename_i es hes
        refine .write _ _ _ h fun N hN nx' hx => ?_
        have hid : ∀ d, d ∈ parts.map (·.2) → agr (ids M 5 d) M N := fun d hd i hi => hN i (List.mem_append_left _ (List.mem_flatMap.2 ⟨d, hd, hi⟩))
        have hnf' : (parts.map (·.2)).all (nf np N) = true := by rw [all_congr fun x hx => nf_congr 4 (hid x hx)]; exact hnf
        have hes' : bsD N sz (List.replicate len zs) parts = some es := by rw [bsD_congr parts _ fun p hp => cells_fz_congr (hid p.2 (List.mem_map_of_mem hp))]; exact hes
        simp only [semBuildSlice, he, h1, h2, nfA_eq hnf', hes']
        exact ⟨h0, a1, a2, a3, a4, by rw [agr_at hN]; exact a5, hx⟩
      · exact h.elim
    · exact h.elim
  · exact h.elim
theorem loc_append {t t2 : TypeId} {s x : D} (h : semAppend P np t t2 s x M fid nx) : LocAt (ids0 x) (ids0 s ++ [fid]) (fun M => semAppend P np t t2 s x M fid) M nx := by
  unfold semAppend at h
  obtain ⟨h0, h⟩ := h
  split at h
  · rename_i e he
    split at h
    · rename_i sz by' zs szx ys h1 h2 h3 h4
      obtain ⟨a1, a2, a3, a4, h⟩ := h
      have hx' : ∀ N, agr (ids0 x ++ (ids0 s ++ [fid])) M N → rowsOf N x = some (szx, ys) ∧ N fid = none := fun N hN =>
        ⟨by rw [rowsOf_congr fun i hi => hN i (List.mem_append_left _ hi)]; exact h4, by rw [hN fid (by simp)]; exact a3⟩
      split at h
      · obtain ⟨b1, b2, h⟩ := h
        refine .write _ _ _ h fun N hN nx' hx => ?_
        obtain ⟨c1, c2⟩ := hx' N (by simpa [ids0] using hN)
        simp only [semAppend, he, h1, h2, h3, c1]
        exact ⟨h0, a1, a2, c2, a4, b1, b2, hx⟩
      · rename_i id
        split at h
        · rename_i sz' xs hc
          obtain ⟨b1, b2, b3, b4, h⟩ := h
          refine ⟨_, _, h, fun i hi => ?_, fun N hN nx' hx => ?_⟩
          · simp [ids0] at hi
            rw [upd_ne _ _ hi.2, upd_ne _ _ hi.1]
          · obtain ⟨c1, c2⟩ := hx' N hN
            have c3 : N id = some (.row sz' xs true) := by rw [hN id (by simp [ids0])]; exact hc
            have hov : ovr (ids0 (.row id) ++ [fid]) (upd (upd M id (some .dead)) fid (some (.row sz (xs ++ ys) true))) N = upd (upd N id (some .dead)) fid (some (.row sz (xs ++ ys) true)) := by
              funext j
              simp only [ovr, ids0, upd]
              by_cases h1 : j = fid
              · simp [h1]
              · by_cases h2 : j = id
                · simp [h2]
                · simp [h1, h2]
            rw [hov] at hx
            simp only [semAppend, he, h1, h2, h3, c1, c3]
            exact ⟨h0, a1, a2, c2, a4, b1, b2, b3, b4, hx⟩
        · exact h.elim
      · exact h.elim
    · exact h.elim
  · exact h.elim
theorem loc_store {t : TypeId} {p d : D} (hnf : nf np M d = true) (h : semStore P np t p d M nx) : LocAt (ids M 5 d) (ids0 p) (fun M => semStore P np t p d M) M nx := by
  unfold semStore at h
  obtain ⟨h0, h1, h⟩ := h
  split at h
  · rename_i id off
    split at h
    · rename_i cs hc
      exact .write _ _ _ h.2 fun N hN nx' hx => by simp only [semStore, agr_at hN, hc]; exact ⟨h0, h1, h.1, hx⟩
    · exact h.elim
  · rename_i id i off
    simp only [nf_eq hnf] at h
    split at h
    · rename_i sz es ds hc hds
      split at h
      · rename_i e he
        refine .write _ _ _ h.2 fun N hN nx' hx => ?_
        have hid : agr (ids M 5 d) M N := fun i hi => hN i (List.mem_append_left _ hi)
        have hnf' : nf np N d = true := by rw [nf_congr 4 hid]; exact hnf
        simp only [semStore, nf_eq hnf', agr_at hN, hc, cells_fz_congr hid, hds, he]
        exact ⟨h0, h1, h.1, hx⟩
      · exact h.elim
    · exact h.elim
  · exact h.elim
end fresh

end Go.Abs
