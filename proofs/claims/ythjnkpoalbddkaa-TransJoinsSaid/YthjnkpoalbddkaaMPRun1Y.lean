/- A maker runs: a byte more, a state more. -/
import Derived.Test.YthjnkpoalbddkaaMPRun0Y
import Derived.Laws.ResultCell
import Derived.Laws.Rows
namespace Go.Proofs.Ythjnkpoalbddkaa.MP
open Go.RowKit Go.Maps Go.WideMaps
theorem results_cell_row2 {fn : Func} {p u : Tmp} {ty : TypeId} (h : fn.results = #[.cell p ty, .tmp u]) (tmps : Array Value) (w : World) (g : Nat) (cs : Array Value)
    (hp : tmps.getD p undef = .pointer (some ⟨g, 0, none⟩)) (hl : (loadVar ty ⟨g, 0, none⟩).run Try.prog w = .ok (.agg cs) w) :
    (results fn tmps).run Try.prog w = .ok (.tuple #[.agg cs, tmps.getD u undef]) w := by
  rw [results_cell_tmp h, hp]
  simp [asAddr, Result.andThen, hl]
theorem far_new {w : World} {g : Nat} {v : Value} {n : Nat} {xs : List Value} {base : Nat} {e : TypeId} (h : w.ownsRow base e 1 v n xs) (hg : w.heap.size ≤ g) : some g ≠ v.ownBlock := fun hv => by
  have := (h.lt g hv.symm).2
  omega
theorem one_news {w : World} {g : Nat} {u : Value} (h0 : w.cell? ⟨g, 0, none⟩ = some u) : ∀ j u', [u][j]? = some u' → w.cell? ((⟨g, 0, none⟩ : Addr).add j) = some u' := by
  intro j u' hj
  match j, hj with
  | 0, hj => simp at hj; subst hj; simpa [Addr.add] using h0
theorem row_next {l : List Int} {c : Nat} (h : l.length = c) (hc : c < 256) : (numsV .i64 l ++ List.replicate (256 - c) (Value.int .i64 0))[c]? = some (.int .i64 0) := by
  have h1 : (numsV .i64 l).length = c := by simp [numsV, h]
  rw [List.getElem?_append_right (by omega), h1, Nat.sub_self]
  rw [List.getElem?_replicate, if_pos (by omega)]
theorem plc_le {α : Type} [DecidableEq α] (l : List α) (x : α) : plc l x ≤ l.length := List.idxOf_le_length
theorem four_set {W : World} {gr : Nat} {t : TypeId} {a b c d : Value} (h : Blk W gr t [a, b, c, d]) (v0 v1 v2 v3 : Value) :
    Blk ((((W.setCell ⟨gr, 0, none⟩ v0).setCell ⟨gr, 1, none⟩ v1).setCell ⟨gr, 2, none⟩ v2).setCell ⟨gr, 3, none⟩ v3) gr t [v0, v1, v2, v3] ∧ But (fun k => k = gr) W ((((W.setCell ⟨gr, 0, none⟩ v0).setCell ⟨gr, 1, none⟩ v1).setCell ⟨gr, 2, none⟩ v2).setCell ⟨gr, 3, none⟩ v3) := by
  have hs := fun (W : World) (j : Nat) (v : Value) => (But.of_grown (grownBy_setCell W gr j v)).mono (S' := fun k => k = gr) (fun k _ e => by injection e with e; exact e.symm)
  exact ⟨(((h.set 0 v0).set 1 v1).set 2 v2).set 3 v3, (((hs W 0 v0).trans (hs _ 1 v1) (fun _ _ e => e)).trans (hs _ 2 v2) (fun _ _ e => e)).trans (hs _ 3 v3) (fun _ _ e => e)⟩
theorem info42s : (Try.prog.info? 42).map (·.size) = some 4 := by kernel_rfl
theorem res_mach {w : World} {g : Nat} {fn : Func} {p u : Tmp} {a b c d : Value} (h : fn.results = #[.cell p 42, .tmp u]) (tmps : Array Value) (hp : tmps.getD p undef = .pointer (some ⟨g, 0, none⟩)) (hg : Blk w g 42 [a, b, c, d]) :
    (results fn tmps).run Try.prog w = .ok (.tuple #[.agg #[a, b, c, d], tmps.getD u undef]) w :=
  results_cell_row2 h tmps w g _ hp (run_loadVar_row w g 42 42 _ (0, 0) _ hg Try.underlying42 rfl info42s)
section
variable {fs fe : Nat} {cs ce : List Value} {C : Bool → World → Prop} {step : St → UInt8 → Bs × St} {fin : St → Bs} {first : St} {Ok : St → Prop} {lg : St → UInt8 → Bool} {lge : St → Bool} {B bk k gx gp gr : Nat} {s : St} {vn vp ve : Value} {gno gtx : Nat} {RN RP : Nat → Nat} {W W' : World} {m : Mk St} {c : Nat} {fl : Bool} {vt va vt' va' : Value} {D1 D2 D1' D2' : DataW Unit} {nx pt : List Int}
theorem fits_of {m : Mk St} {k : Nat} (h : MkOk step fin first m k) (hb : m.bad = false) : m.all.length ≤ 1200 ∧ m.texts.length ≤ 4096 := by
  have hnb : ¬ (1200 < m.all.length ∨ 4096 < m.texts.length ∨ ∃ t ∈ m.texts, 4096 < t.length) := fun e => by
    have := h.bad.2 e
    rw [hb] at this
    cases this
  omega
theorem InI.next (h : InI C step fin first Ok lg lge B bk k gx gp gr s vn vp ve gno gtx RN RP W m c fl vt va D1 D2 nx pt) (he : Env fs fe B C cs ce step fin Ok lg lge) (hc : c < 256) {cb : UInt8} (hcb : cb = UInt8.ofNat c) {q : St} (hq : (step s cb).2 = q) {t : Bs} (ht : (step s cb).1 = t) {p4 p6 : Nat}
    (hp4 : p4 = plc (m.addS q).all q) (hp6 : p6 = plc ((m.addS q).addT (cutB t cb)).texts (cutB t cb)) {on : Int} (hon : on = oddN t cb) {bd : Bool} (hbd : bd = ((m.addS q).addT (cutB t cb)).bad) (hb : bd = false)
    (hm : MidI C B bk k gx gp gr vn vp ve gno gtx RN RP W' ((m.addS q).addT (cutB t cb)) (fl || lg s cb) vt' va' D1' D2' ((numsV .i64 nx ++ List.replicate (256 - c) (Value.int .i64 0)).set c (Value.int .i64 (p4 : Nat))) ((numsV .i64 pt ++ List.replicate (256 - c) (Value.int .i64 0)).set c (Value.int .i64 (2 * (p6 : Nat) + on)))) :
    InI C step fin first Ok lg lge B bk k gx gp gr s vn vp ve gno gtx RN RP W' ((m.addS q).addT (cutB t cb)) (c + 1) (fl || lg s cb) vt' va' D1' D2' (nx ++ [((p4 : Nat) : Int)]) (pt ++ [2 * ((p6 : Nat) : Int) + on]) := by
  have hr := h.run.round he.ok h.cur
  have hrow := h.row.snoc hc
  subst hq ht hp4 hp6 hon hbd hcb
  have hf := fits_of hr.ok hb
  refine ⟨hr, ?_, hrow, ?_, hf.1, by omega⟩
  · have e : 256 - c = (256 - (c + 1)) + 1 := by omega
    have e1 := set_row nx (256 - (c + 1)) ((plc (m.addS (step s (UInt8.ofNat c)).2).all (step s (UInt8.ofNat c)).2 : Nat) : Int)
    have e2 := set_row pt (256 - (c + 1)) (2 * ((plc ((m.addS (step s (UInt8.ofNat c)).2).addT (cutB (step s (UInt8.ofNat c)).1 (UInt8.ofNat c))).texts (cutB (step s (UInt8.ofNat c)).1 (UInt8.ofNat c)) : Nat) : Int) + oddN (step s (UInt8.ofNat c)).1 (UInt8.ofNat c))
    rw [h.row.nl] at e1
    rw [h.row.pl] at e2
    rw [e, e1, e2] at hm
    exact hm
  · exact ((m.addS_le _).trans ((m.addS _).addT_le _)).getAll h.cur
theorem InI.bad (h : InI C step fin first Ok lg lge B bk k gx gp gr s vn vp ve gno gtx RN RP W m c fl vt va D1 D2 nx pt) (he : Env fs fe B C cs ce step fin Ok lg lge) {cb : UInt8} (hcb : cb = UInt8.ofNat c) {q : St} (hq : (step s cb).2 = q) {t : Bs} (ht : (step s cb).1 = t) :
    RunI step fin first Ok lg lge ((m.addS q).addT (cutB t cb)) k (c + 1) (fl || lg s cb) ∧ k < ((m.addS q).addT (cutB t cb)).all.length := by
  have hr := h.run.round he.ok h.cur
  subst hq ht hcb
  exact ⟨hr, (List.getElem?_eq_some_iff.1 (((m.addS_le _).trans ((m.addS _).addT_le _)).getAll h.cur)).1⟩
end
end Go.Proofs.Ythjnkpoalbddkaa.MP
