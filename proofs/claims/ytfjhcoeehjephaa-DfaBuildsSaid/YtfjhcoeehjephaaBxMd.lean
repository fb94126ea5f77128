/- The box of an automaton: 258 cells. -/
import Derived.Test.YtfjhcoeehjephaaBuMMd
import Derived.Great.BuildSlice
namespace Go.Proofs.Ytfjhcoeehjephaa
open Go.RowKit

def dV (f : Nat → Nat) (nx ac : Value) : List Value := bytV f ++ [nx, ac]
theorem dV_len (f : Nat → Nat) (nx ac : Value) : (dV f nx ac).length = 258 := by rw [dV, List.length_append, bytV_len]; rfl
theorem dV_cls (f : Nat → Nat) (nx ac : Value) {b : Nat} (h : b < 256) : (dV f nx ac)[b]? = some (.int .u8 ((f b : Nat) : Int)) := by
  rw [dV, List.getElem?_append_left (by rw [bytV_len]; exact h), bytV_get _ h]
theorem dV_nx (f : Nat → Nat) (nx ac : Value) : (dV f nx ac)[256]? = some nx := by
  rw [dV, List.getElem?_append_right (by rw [bytV_len]; omega), bytV_len]; rfl
theorem dV_ac (f : Nat → Nat) (nx ac : Value) : (dV f nx ac)[257]? = some ac := by
  rw [dV, List.getElem?_append_right (by rw [bytV_len]; omega), bytV_len]; rfl
theorem dV_set_nx (f : Nat → Nat) (nx ac v : Value) : (dV f nx ac).set 256 v = dV f v ac := by
  rw [dV, List.set_append_right _ _ (by rw [bytV_len]; omega), bytV_len]; rfl
theorem dV_set_ac (f : Nat → Nat) (nx ac v : Value) : (dV f nx ac).set 257 v = dV f nx v := by
  rw [dV, List.set_append_right _ _ (by rw [bytV_len]; omega), bytV_len]; rfl
theorem dV_one (f : Nat → Nat) (A A' : Option Addr) (n m c c' : Nat) : (dV f (.slice A n c) (.slice A' m c')).toArray.all (·.oneCell') = true := by
  rw [Array.all_eq_true_iff_forall_mem]
  intro x hx
  simp only [dV, bytV, List.mem_toArray, List.mem_append, List.mem_map] at hx
  rcases hx with ⟨b, _, rfl⟩ | hx
  · rfl
  · simp at hx
    rcases hx with rfl | rfl <;> rfl
def zs30 : Array Value := (dV (fun _ => 0) (.slice none 0 0) (.slice none 0 0)).toArray
theorem zs30_get (k : Nat) : zs30[k]? = (dV (fun _ => 0) (.slice none 0 0) (.slice none 0 0))[k]? := by unfold zs30; rw [List.getElem?_toArray]
set_option maxRecDepth 100000 in
theorem zeroV30 (W : World) : (zeroValue 30).run Try.prog W = .ok (.agg zs30) W := by kernel_rfl
theorem info30 : (Try.prog.info? 30).map (·.size) = some 258 := by kernel_rfl
theorem info30z : (Try.prog.info? 30).map (·.zero) = some (some (.agg zs30)) := by kernel_rfl
def loadD (v : Value) : Sem Value := Instr.loadAt 30 v
theorem load_dfa (v : Value) : Instr.loadAt 30 v = loadD v := rfl
def storeD (p v : Value) : Sem Unit := Instr.storeAt 30 p v
theorem store_dfa (p v : Value) : Instr.storeAt 30 p v = storeD p v := rfl
def buildD (a : Array (Nat × Value)) : Sem Value := Instr.build 30 a
theorem build_dfa (a : Array (Nat × Value)) : Instr.build 30 a = buildD a := rfl
theorem load30 {W : World} {g : Nat} {ds : List Value} (h : Blk W g 30 ds) (hl : ds.length = 258) : (loadD (.pointer (some ⟨g, 0, none⟩))).run Try.prog W = .ok (.agg ds.toArray) W := by
  have hr : W.rangeAt g 0 ds := fun j v hv => by rw [h.cell]; simpa using hv
  have := run_loadAt_mid W g 0 30 ds _ hr Try.underlying30 rfl (by rw [hl]; exact info30)
  unfold loadD
  rw [this]
theorem store30 {W : World} {g : Nat} {cs : List Value} (h : Blk W g 30 cs) (hc : cs.length = 258) (ds : List Value) (hd : ds.length = 258) (h1 : ds.toArray.all (·.oneCell') = true) : (storeD (.pointer (some ⟨g, 0, none⟩)) (.agg ds.toArray)).run Try.prog W = .ok () (W.setRow g ds.toArray) := by
  simp only [storeD, Instr.storeAt, Instr.sureAddr, Sem.run_bind, Sem.run_pure, Result.andThen_ok]
  exact run_storeVar_row W g 30 30 _ _ h (by rw [List.size_toArray, hd]; exact info30) (by simp [hc, hd]) h1
theorem load_var30 {W : World} {g : Nat} {ds : List Value} (h : Blk W g 30 ds) (hl : ds.length = 258) : (loadVar 30 ⟨g, 0, none⟩).run Try.prog W = .ok (.agg ds.toArray) W :=
  run_loadVar_row W g 30 30 ds.toArray (0, 0) _ h Try.underlying30 rfl (by rw [List.size_toArray, hl]; exact info30)
theorem res30 {fn : Func} {p u : Tmp} (h : fn.results = #[.cell p 30, .tmp u]) {tmps : Array Value} {W : World} {g : Nat} {ds : List Value} {b : Value} (hp : tmps.getD p undef = .pointer (some ⟨g, 0, none⟩)) (hb : tmps.getD u undef = b) (hB : Blk W g 30 ds) (hl : ds.length = 258) : (results fn tmps).run Try.prog W = .ok (.tuple #[.agg ds.toArray, b]) W := by
  rw [results_cell_tmp h, hp, hb]
  simp only [asAddr, Sem.run_pure, Result.andThen_ok]
  rw [load_var30 hB hl]
  rfl
theorem fill_step (p : Nat → Option (Nat × Nat)) {i off size : Nat} (hp : p i = some (off, size)) {v : Value} (hs : v.cells.size = size) {z : Array Value} (hle : off + size ≤ z.size) (rest : List (Nat × Value)) :
    Instr.fill p z ((i, v) :: rest) = Instr.fill p ((v.cells.toList.zipIdx 0).foldl (fun cs (x : Value × Nat) => cs.setIfInBounds (off + x.2) x.1) z) rest := by
  conv => lhs; unfold Instr.fill
  simp only [hp, hs]
  rw [if_neg (by simp; omega)]
  congr 1
  rw [← Array.foldl_toList, Array.toList_zipIdx]
theorem fill30 (f : Nat → Nat) (p : Nat → Option (Nat × Nat)) (h0 : p 0 = some (0, 256)) : Instr.fill p zs30 [(0, .agg (bytV f).toArray)] = some (dV f (.slice none 0 0) (.slice none 0 0)).toArray := by
  have hzs : zs30.size = 258 := by unfold zs30; rw [List.size_toArray, dV_len]
  have hcs : (Value.agg (bytV f).toArray).cells = (bytV f).toArray := rfl
  rw [fill_step p h0 (by rw [hcs, List.size_toArray, bytV_len]) (by omega), hcs, List.toList_toArray]
  obtain ⟨g1, g2⟩ := Great.foldl_set 0 (bytV f) 0 zs30
  obtain ⟨r, hr⟩ : ∃ r, r = (((bytV f).zipIdx 0).foldl (fun cs (x : Value × Nat) => cs.setIfInBounds (0 + x.2) x.1) zs30) := ⟨_, rfl⟩
  rw [← hr] at g1 g2 ⊢
  obtain ⟨t, ht⟩ : ∃ t, t = dV f (.slice none 0 0) (.slice none 0 0) := ⟨_, rfl⟩
  have htl : t.length = 258 := by rw [ht, dV_len]
  rw [← ht]
  have hz := zs30_get
  generalize zs30 = z at g1 g2 hzs hz
  clear hr
  unfold Instr.fill
  refine congrArg some ?_
  apply Array.ext_getElem?
  intro k
  have h8 : t.toArray[k]? = t[k]? := by simp
  rw [g2 k, h8]
  have hbl := bytV_len f
  by_cases e2 : k < 256
  · rw [ht, dV_cls _ _ _ e2, if_pos (by omega)]
    have := bytV_get f e2
    simpa using this
  · rw [if_neg (by omega), hz k]
    by_cases e3 : k = 256
    · subst e3; rw [ht, dV_nx, dV_nx]
    · by_cases e4 : k = 257
      · subst e4; rw [ht, dV_ac, dV_ac]
      · rw [List.getElem?_eq_none (by rw [dV_len]; omega), List.getElem?_eq_none (by omega)]
theorem buildD_run (f : Nat → Nat) (W : World) : (buildD #[(0, .agg (bytV f).toArray)]).run Try.prog W = .ok (.agg (dV f (.slice none 0 0) (.slice none 0 0)).toArray) W := by
  unfold buildD
  refine run_build W 30 _ _ ?_
  unfold Program.built
  have hz := info30z
  cases hi : Try.prog.info? 30 with
  | none => rw [hi] at hz; cases hz
  | some it =>
    rw [hi] at hz
    have hz : it.zero = some (.agg zs30) := by injection hz
    rw [Try.underlying30]
    simp only [hz]
    rw [show (Array.toList _ : List Field).mapM (fun f => (Try.prog.info? f.type).map fun i => (f.offset, i.size)) = some [(0, 256), (256, 1), (257, 1)] by kernel_rfl]
    exact fill30 f _ rfl
theorem buildD_nil (W : World) : (buildD #[]).run Try.prog W = .ok (.agg zs30) W := run_build W 30 #[] _ (by kernel_rfl)
end Go.Proofs.Ytfjhcoeehjephaa
