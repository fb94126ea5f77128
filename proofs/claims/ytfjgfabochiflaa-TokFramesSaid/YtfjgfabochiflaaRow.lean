/- From the form's reading of an argument to plain lists; from a call that answers true to the row. Over any program. -/
import Derived.Test.YtfjgfabochiflaaBase
import Derived.ProofKit
import Derived.SizedLaws
import Derived.Deep.Slices
import Derived.Deep.Fields
import Derived.ChangeSame
import Derived.WideKeyArgs
namespace Go.Proofs.Ytfjgfabochiflaa
open Go.RowKit Go.ChangeShapes Go.WideShapes Go.ChangeAt Go.Deep

section
variable {H : Type} {enc : TypeId × Value → H} {P : Program}
theorem post_of_below {f : Func} {s : ChangeSpec} {apart fresh handsOn again : Bool} {W W' : World} {args : Array Value} {v : Value} {ds gs : List (DataW H)} {before pa pv : List MemPlace}
    (hW : DataW.Whole enc P f.params.toList s.vars apart W args.toList ds gs before)
    (hres : ∀ (b : Nat) (sp : Nat → Bool) (hd : Bool), DataW.TrodAll enc P W' b sp hd f.resultTypes.toList (v.resultList f.resultTypes.size) (s.fn H (ds ++ gs)).results [])
    (hargs : ∀ sp : Nat → Bool, (∀ p ∈ before, sp p.block = true) → DataW.TrodAll enc P W' 0 sp true f.params.toList args.toList (s.fn H (ds ++ gs)).args pa)
    (hvars : ∀ sp : Nat → Bool, (∀ p ∈ before, sp p.block = true) → DataW.TrodVars enc P W' sp s.vars (s.fn H (ds ++ gs)).vars pv)
    (hps : before = pa ++ pv) (hb : Below W.heap.size W W')
    (hok : ∀ (j : Nat) (t : TypeId) (r : Value), f.resultTypes[j]? = some t → (v.resultList f.resultTypes.size)[j]? = some r → Value.okWide P W' .any 0 t r) :
    s.post enc P f apart fresh handsOn again W args v W' := by
  have hlt : ∀ p ∈ before, p.block < W.heap.size := fun p hp => hW.lt p hp
  have hold : ∀ p ∈ before, (fun b => decide (b < W.heap.size)) p.block = true := fun p hp => by simpa using hlt p hp
  refine ⟨ds, gs, before, [], pa, pv, hW, hres _ _ _, hargs _ hold, hvars _ hold, World.keptBut_mono (fun p hp => ⟨hp, ?_⟩) (hb.frame (· ∈ before)), fun _ => ?_⟩
  · rw [hps, List.mem_append] at hp
    exact Or.inr hp
  · obtain ⟨_, _, _, _, _, hz, hn⟩ := hW
    refine ⟨hok, _, _, ([] ++ pa) ++ pv, ⟨[] ++ pa, pv, trodAll_append (hargs _ (fun _ _ => rfl)) (hres _ _ _), hvars _ (fun _ _ => rfl), rfl, ?_, ?_⟩, ?_⟩
    · intro b off hp
      have hin : MemPlace.cell b off ∈ before := by rw [hps]; simpa using hp
      rw [hb.frozen (hlt _ hin)]
      exact hz b off hin
    · intro ha
      have := hn ha
      rw [hps] at this
      simpa using this
    · intro p hp _
      rw [hps]
      simpa using hp

theorem trodAll_stays (hl : laidOutB P = true) {W W' : World} {sp' : Nat → Bool} : ∀ {ts : List TypeId} {vs : List Value} {ds : List (DataW H)} {ps : List MemPlace}, (∀ t ∈ ts, P.readableRec t = true ∧ t < P.types.size) →
    DataW.TrodAll enc P W 0 (fun _ => true) true ts vs ds ps → (∀ p ∈ ps, W.sameAt W' p) → (∀ p ∈ ps, sp' p.block = true) → DataW.TrodAll enc P W' 0 sp' true ts vs ds ps
  | [], vs, ds, ps, _, h, _, _ => by
    obtain ⟨rfl, rfl, rfl⟩ := trodAll_nil h
    exact trodAll_mk0
  | t :: ts, vs, ds, ps, hr, h, h1, h2 => by
    obtain ⟨v, vs', d, ds', p, q, rfl, rfl, rfl, hd, hrest⟩ := trodAll_cons h
    obtain ⟨ht, hts⟩ := hr t (by simp)
    exact ⟨p, q, WideElems.Trod_stays hl ht hts hd (fun x hx => h1 x (by simp [hx])) (fun x hx => h2 x (by simp [hx])),
      trodAll_stays hl (fun t' h' => hr t' (by simp [h'])) hrest (fun x hx => h1 x (by simp [hx])) (fun x hx => h2 x (by simp [hx])), rfl⟩

/-- a law that has answered true, in a world that is as it was below the old heap's end -/
theorem law_post {f : Func} {s : ChangeSpec} {apart fresh handsOn again : Bool} {W W' : World} {args : Array Value} {ds : List (DataW H)} {before : List MemPlace} {tb : TypeId}
    (hl : laidOutB P = true) (hts : ∀ t ∈ f.params.toList, P.readableRec t = true ∧ t < P.types.size) (hvars : s.vars = []) (hrt : f.resultTypes = #[tb]) (hb : P.underlying tb = some .bool)
    (hW : DataW.Whole enc P f.params.toList s.vars apart W args.toList ds [] before)
    (hr : (s.fn H (ds ++ [])).results = [.lit (.bool true)]) (ha : (s.fn H (ds ++ [])).args = ds) (hv : (s.fn H (ds ++ [])).vars = []) (hbel : Below W.heap.size W W') :
    s.post enc P f apart fresh handsOn again W args (.bool true) W' := by
  have hW0 := hW
  obtain ⟨p, q, hA, hV, hpq, _, _⟩ := hW
  rw [hvars] at hV
  have hq : q = [] := hV
  subst hq
  have hp : before = p := by simpa using hpq
  subst hp
  refine post_of_below (pa := before) (pv := []) hW0 (fun b sp hd => ?_) (fun sp hsp => ?_) (fun sp hsp => ?_) (by simp) hbel (ok_one hrt rfl (okWide_bool_mk hb true))
  · rw [hr, hrt]
    exact trodAll_mk1 (shut_bool hb true)
  · rw [ha]
    exact trodAll_stays hl hts hA (fun x hx => hbel.same (hW0.lt x hx)) hsp
  · rw [hv, hvars]
    exact rfl

/-- a slice: element k's cells read as xs[k] -/
def SlR {α : Type} (w : World) (R : World → List Value → α → Prop) (size : Nat) (A : Option Addr) (n : Nat) (xs : List α) : Prop :=
  xs.length = n ∧ (0 < n → ∃ b off, A = some ⟨b, off, none⟩ ∧ ∀ k (hk : k < xs.length), ∃ cs', cs'.length = size ∧ (∀ j, j < size → w.cell? ⟨b, off + (k * size + j), none⟩ = cs'[j]?) ∧ R w cs' xs[k])

theorem list_of_all {α : Type} {Q : Nat → α → Prop} : ∀ n, (∀ i, i < n → ∃ a, Q i a) → ∃ xs : List α, xs.length = n ∧ ∀ i (h : i < xs.length), Q i xs[i]
  | 0, _ => ⟨[], rfl, fun i h => absurd h (by simp)⟩
  | n + 1, h => by
    obtain ⟨xs, hl, hx⟩ := list_of_all n (fun i hi => h i (by omega))
    obtain ⟨a, ha⟩ := h n (by omega)
    refine ⟨xs ++ [a], by simp [hl], fun i hi => ?_⟩
    by_cases hin : i < n
    · rw [List.getElem_append_left (by omega)]
      exact hx i (by omega)
    · have : i = n := by simp at hi; omega
      subst this
      simp [hl]
      exact ha

/-- every string, slice and map of a datum is within the form's reach -/
def Wt (P : Program) (t : TypeId) (d : DataW H) : Prop := ∀ n ∈ d.weights P t, n ≤ reachBytes
theorem Wt.of_arg {ts : List TypeId} {ds : List (DataW H)} {j : Nat} {t : TypeId} {d : DataW H} (h : (DataW.weightsEach P ts ds).all (· ≤ reachBytes) = true) (ht : ts[j]? = some t) (hd : ds[j]? = some d) : Wt P t d := fun n hn => by
  simpa using List.all_eq_true.1 h _ (DataW.weights_mem_each ht hd n hn)
theorem weightsAll_mem {e : TypeId} {d : DataW H} : ∀ {l : List (DataW H)}, d ∈ l → ∀ n ∈ d.weights P e, n ∈ DataW.weightsAll P e l
  | x :: r, h, n, hn => by
    simp only [DataW.weightsAll, List.mem_append]
    rcases List.mem_cons.1 h with rfl | h
    · exact .inl hn
    · exact .inr (weightsAll_mem h n hn)
theorem Wt.slice {t e : TypeId} {el sp : List (DataW H)} (hu : P.underlying t = some (.slice e)) (h : Wt P t (.slice el sp)) : (el.length + sp.length) * P.bytesOf e ≤ reachBytes ∧ ∀ d ∈ el, Wt P e d := by
  unfold Wt at h
  simp only [DataW.weights, hu] at h
  exact ⟨h _ (by simp), fun d hd n hn => h n (by simp [weightsAll_mem hd n hn])⟩
theorem Wt.struct {t : TypeId} {fs : Array Field} {parts : List (DataW H)} {j : Nat} {f : Field} {d : DataW H} (hu : P.underlying t = some (.struct fs)) (h : Wt P t (.agg parts)) (hj : fs[j]? = some f) (hd : parts[j]? = some d) : Wt P f.type d := by
  unfold Wt at h
  simp only [DataW.weights, hu] at h
  exact fun n hn => h n (DataW.weights_mem_each (j := j) (by simp [hj]) hd n hn)
theorem Wt.array {t e : TypeId} {k : Nat} {parts : List (DataW H)} (hu : P.underlying t = some (.array k e)) (h : Wt P t (.agg parts)) : ∀ d ∈ parts, Wt P e d := by
  unfold Wt at h
  simp only [DataW.weights, hu] at h
  exact fun d hd n hn => h n (weightsAll_mem hd n hn)

theorem open_sl {w : World} {base : Nat} {spare : Nat → Bool} {held : Bool} {t e : TypeId} {size : Nat} {α : Type} {R : World → List Value → α → Prop} (ht : P.underlying t = some (.slice e)) (hC : P.cellsOf e = size) (hpos : 0 < size)
    (he : ∀ (n : Nat) (cs : List Value) (x : DataW H × List MemPlace), DataW.trod enc P w base spare held n e cs = some x → Wt P e x.1 → ∃ a, R w cs a)
    {fuel : Nat} {cs : List Value} {x : DataW H × List MemPlace} (h : DataW.trod enc P w base spare held fuel t cs = some x) (hw : Wt P t x.1) :
    ∃ A n c xs, cs = [.slice A n c] ∧ SlR w R size A n xs ∧ n ≤ c ∧ c ≤ maxLen ∧ n * P.bytesOf e ≤ reachBytes := by
  rcases open_slice ht h with ⟨rfl, rfl⟩ | ⟨a, len, cap, m, n, D, Pl, rfl, _, hl, hm, hmm, rfl, hi⟩
  · exact ⟨none, 0, 0, [], rfl, ⟨rfl, fun h => absurd h (by omega)⟩, by omega, by decide, by simp⟩
  · rw [hC] at hi
    obtain ⟨hw1, hw2⟩ := hw.slice ht
    have hml : len ≤ m := by rw [hmm]; split <;> omega
    obtain ⟨xs, hxl, hx⟩ := list_of_all (Q := fun i (b : α) => ∃ cs', cs'.length = size ∧ (∀ j, j < size → w.cell? ((a.add (i * size)).add j) = cs'[j]?) ∧ R w cs' b) len (fun i hi' => by
      obtain ⟨cs', hc, htr⟩ := hi i (by omega)
      obtain ⟨a', ha'⟩ := he _ _ _ htr (hw2 _ (by simpa using ⟨i, hi', rfl⟩))
      obtain ⟨_, h1, h2⟩ := World.cells?_some hc
      exact ⟨a', cs', h1, h2, ha'⟩)
    refine ⟨some a, len, cap, xs, rfl, ⟨hxl, fun hn => ?_⟩, by omega, by omega, Nat.le_trans (Nat.mul_le_mul_right _ (by simp)) hw1⟩
    obtain ⟨b, off, spot⟩ := a
    have hspot : spot = none := by
      obtain ⟨cs', h1, h2, _⟩ := hx 0 (by omega)
      have h3 := h2 0 hpos
      have h4 : cs'[0]? = some cs'[0] := List.getElem?_eq_getElem (by omega)
      rw [h4] at h3
      simpa [Addr.add] using World.cell?_spot h3
    subst hspot
    refine ⟨b, off, rfl, fun k hk => ?_⟩
    obtain ⟨cs', h1, h2, h3⟩ := hx k hk
    refine ⟨cs', h1, fun j hj => ?_, h3⟩
    rw [← h2 j hj, add_of_add]
    congr 1
    unfold Addr.add
    split <;> simp_all

/-- a cell that is an int of a kind -/
theorem open_num {w : World} {base : Nat} {spare : Nat → Bool} {held : Bool} {ti : TypeId} {q : IntKind} (hi : P.underlying ti = some (.int q)) (n : Nat) (cs : List Value) (x : DataW H × List MemPlace)
    (h : DataW.trod enc P w base spare held n ti cs = some x) (_ : Wt P ti x.1) : ∃ a : Int, cs = [.int q a] ∧ (Lit.int q a).wf = true := by
  obtain ⟨a, e, _, hw⟩ := DataW.trod_int hi h
  exact ⟨a, e, hw⟩

/-- a struct of fields of one cell each, two of them ints -/
theorem open_pair {w : World} {base : Nat} {spare : Nat → Bool} {held : Bool} {e ti : TypeId} {f0 f1 : Field} (hs : P.underlying e = some (.struct #[f0, f1])) (ho0 : f0.offset = 0) (ho1 : f1.offset = 1) (ht0 : f0.type = ti) (ht1 : f1.type = ti)
    (hi : P.underlying ti = some (.int .i64)) (hc : P.cellsOf ti = 1) (hce : P.cellsOf e = 2)
    (n : Nat) (cs : List Value) (x : DataW H × List MemPlace) (h : DataW.trod enc P w base spare held n e cs = some x) (_ : Wt P e x.1) :
    ∃ a : Int × Int, cs = [.int .i64 a.1, .int .i64 a.2] := by
  obtain ⟨xs, m, _, _, hlen, hxl, hf⟩ := DataW.trod_struct hs h
  rw [hce] at hlen
  match cs, hlen with
  | [c0, c1], _ =>
    have h0 := hf 0 f0 rfl
    have h1 := hf 1 f1 rfl
    rw [ho0, ht0, hc] at h0
    rw [ho1, ht1, hc] at h1
    match xs, hxl with
    | [y0, y1], _ =>
      obtain ⟨a, e0, _, _⟩ := DataW.trod_int hi h0
      obtain ⟨b, e1, _, _⟩ := DataW.trod_int hi h1
      simp at e0 e1
      exact ⟨(a, b), by rw [e0, e1]⟩

theorem SlR.arr {α : Type} {w : World} {R : World → List Value → α → Prop} {size : Nat} {A : Option Addr} {n : Nat} {xs : List α} (h : SlR w R size A n xs) (hs : 0 < size) (C : Nat → Nat → Value)
    (hC : ∀ k (hk : k < xs.length) cs, R w cs xs[k] → cs.length = size → ∀ j, j < size → cs[j]? = some (C k j)) : Arr w w.heap.size size A n C := by
  intro hn
  obtain ⟨b, off, hA, hx⟩ := h.2 hn
  have hcell : ∀ k j, k < n → j < size → w.cell? ⟨b, off + (k * size + j), none⟩ = some (C k j) := by
    intro k j hk hj
    obtain ⟨cs, h1, h2, h3⟩ := hx k (by rw [h.1]; exact hk)
    rw [h2 j hj, hC k _ cs h3 h1 j hj]
  exact ⟨b, off, hA, by have := World.block_lt_of_cell? _ _ (hcell 0 0 hn hs); simpa using this, hcell⟩
end
end Go.Proofs.Ytfjgfabochiflaa
