/- Base, Row, HMix of this seat, in one text. -/
import Derived.WalkKit
import Derived.Outline
import Derived.Deep.QuietTactic
import Derived.BigQuiet
import Derived.Below
import Derived.Laws.OwnMore
import Derived.Deep.AppendLies
import Derived.Deep.Draws
import Derived.Lib.Hide
import Derived.Laws.IdiomStrings
import Derived.ProofKit
import Derived.SizedLaws
import Derived.Deep.Slices
import Derived.Deep.Fields
import Derived.ChangeSame
import Derived.WideKeyArgs
import Derived.Test.YtgejpggbmgiocaaProg
import Derived.Laws.BitsAllLaws
import Derived.Laws.BitsLemmas
/- Words and lemmas on memory, over any program: slices that came in, rows of the call's own, an append of one element. -/
namespace Go.Proofs.Ytgejpggbmgiocaa
open Go.RowKit

theorem block_of_add (a : Addr) (n : Nat) : (a.add n).block = a.block := by unfold Addr.add; split <;> rfl
theorem add_of_add (a : Addr) (i j : Nat) : (a.add i).add j = a.add (i + j) := by
  unfold Addr.add
  by_cases hi : i = 0 <;> by_cases hj : j = 0 <;> simp [hi, hj, Nat.add_assoc]

/-- the slice's cells: element k's cell j is C k j; all lie below block B -/
def Arr (w : World) (B size : Nat) (A : Option Addr) (n : Nat) (C : Nat → Nat → Value) : Prop :=
  0 < n → ∃ b off, A = some ⟨b, off, none⟩ ∧ b < B ∧ ∀ k j, k < n → j < size → w.cell? ⟨b, off + (k * size + j), none⟩ = some (C k j)

section
variable {w w' : World} {B B' size n : Nat} {A : Option Addr} {C : Nat → Nat → Value}
theorem Arr.below (h : Arr w B size A n C) (hb : Below B w w') : Arr w' B size A n C := fun hn => by
  obtain ⟨b, off, e, hlt, hc⟩ := h hn
  exact ⟨b, off, e, hlt, fun k j hk hj => (hb.cell hlt).trans (hc k j hk hj)⟩
theorem Arr.more (h : Arr w B size A n C) (hB : B ≤ B') : Arr w B' size A n C := fun hn => by
  obtain ⟨b, off, e, hlt, hc⟩ := h hn
  exact ⟨b, off, e, by omega, hc⟩
theorem Arr.drewN (h : Arr w B size A n C) (m : Nat) : Arr (w.drewN m) B size A n C := h
theorem Arr.one {k : Nat} (h : Arr w B 1 A n C) (hk : k < n) : ∃ b off, A = some ⟨b, off, none⟩ ∧ b < B ∧ w.cell? ⟨b, off + k, none⟩ = some (C k 0) := by
  obtain ⟨b, off, e, hlt, hc⟩ := h (by omega)
  exact ⟨b, off, e, hlt, by simpa using hc k 0 hk (by omega)⟩
theorem Arr.two {k : Nat} (h : Arr w B 2 A n C) (hk : k < n) : ∃ b off, A = some ⟨b, off, none⟩ ∧ b < B ∧ w.cell? ⟨b, off + k * 2, none⟩ = some (C k 0) ∧ w.cell? ⟨b, off + k * 2 + 1, none⟩ = some (C k 1) := by
  obtain ⟨b, off, e, hlt, hc⟩ := h (by omega)
  exact ⟨b, off, e, hlt, hc k 0 hk (by omega), hc k 1 hk (by omega)⟩
/-- a row of the call's own, read as a slice -/
theorem Arr.of_own {base e c : Nat} {xs : List Value} (h : w.ownsRow base e 1 (.slice A n c) n xs) : Arr w w.heap.size 1 A n (fun k _ => xs.getD k undef) := fun hn => by
  obtain ⟨g, cap, hv, _, hlt⟩ := h.form hn
  have hA : A = some ⟨g, 0, none⟩ := by injection hv
  subst hA
  refine ⟨_, _, rfl, hlt, fun k j hk hj => ?_⟩
  obtain rfl : j = 0 := by omega
  have hl : k < xs.length := by have := h.1; omega
  have := h.cells (g := g) rfl k xs[k] (by simp [hl])
  rw [show (⟨g, 0, none⟩ : Addr).add k = ⟨g, 0 + (k * 1 + 0), none⟩ by unfold Addr.add; split <;> simp [*]] at this
  simpa [hl] using this
end

theorem ret_int {k : IntKind} {a b : Int} (h : a = b) : Ending.returned (.int k a) = .returned (.int k b) := by rw [h]

theorem below_drewN {B : Nat} {a w : World} (h : Below B a w) (n : Nat) : Below B a (w.drewN n) := ⟨h.os, h.tape, h.output, h.size, h.block⟩

/-- a block laid ahead of a call whose old memory stays: its cells behind the call -/
theorem kept_new {w w1 : World} {cs : Array Value} {t : TypeId} (hb : Below (w.alloc (.cells cs t)).heap.size (w.alloc (.cells cs t)) w1) (j : Nat) : w1.cell? ⟨w.heap.size, j, none⟩ = cs[j]? := by
  rw [hb.cell (p := ⟨w.heap.size, j, none⟩) (by simp)]
  exact cell_of_row _ _ _ _ _ _ (heap_alloc_new w _)
theorem size_new {w w1 : World} {o : Obj} (hb : Below (w.alloc o).heap.size (w.alloc o) w1) : w.heap.size < w1.heap.size := by
  have := hb.size
  simp at this
  omega
theorem below_new {B : Nat} {w0 w w1 : World} {o : Obj} (h : Below B w0 w) (hB : B ≤ w.heap.size) (hb : Below (w.alloc o).heap.size (w.alloc o) w1) : Below B w0 w1 :=
  (h.alloc hB o).trans (hb.mono (by simp; omega))
theorem own_drewN {w : World} {base : Nat} {e : TypeId} {size : Nat} {v : Value} {n : Nat} {xs : List Value} (h : w.ownsRow base e size v n xs) (m : Nat) : (w.drewN m).ownsRow base e size v n xs := h

/-- 'string([]byte{n})' -/
theorem run_byte_string {P : Program} (w : World) (src e dst : TypeId) (hs : P.underlying src = some (.slice e)) (he : P.underlying e = some (.int .u8)) (hd : P.underlying dst = some .string) (n : Int) (h0 : 0 ≤ n) (h1 : n < 256) :
    (convert src dst (.slice (some ⟨w.heap.size, 0, none⟩) 1 1)).run P (w.alloc (.cells #[.int .u8 n] e)) = .ok (.string ⟨#[UInt8.ofNat n.toNat]⟩) (w.alloc (.cells #[.int .u8 n] e)) := by
  have h := run_convert_bytes_back (P := P) (w.alloc (.cells #[.int .u8 n] e)) src dst e ⟨w.heap.size, 0, none⟩ 1 [UInt8.ofNat n.toNat] hs he hd (by
    intro j hj
    obtain rfl : j = 0 := by simpa using hj
    have : ((UInt8.ofNat n.toNat).toNat : Int) = n := by
      rw [UInt8.toNat_ofNat']
      omega
    rw [List.getElem_singleton, this]
    simp [Addr.add])
  simpa using h

/-- 'out = append(out, u)': out a row of the call's own; the new cell lies in block g -/
theorem wpList_app1 {P : Program} (w0 w : World) {ops : Array Oper} {rest : List Oper} {o : Oper} {a : Act} {Q : Exit → Act → World → Prop} (hgd : o.guard = none) (s x : Operand) (t : TypeId)
    (ho : o.op = .call { callee := .builtin .append, args := #[s, x], argTypes := #[t, t] })
    (base : Nat) (e : TypeId) (i : TypeInfo) (z : Value) (bytes : Nat) (ht : P.underlying t = some (.slice e)) (hi : P.info? e = some i) (hz : i.zero = some z)
    (hsize : i.size = 1) (hby : i.bytes = bytes) (hzs : z.cells.size = 1)
    (v : Value) (n : Nat) (xs : List Value) (hs : a.eval s = v) (hown : w.ownsRow base e 1 v n xs) (hb : Below base w0 w)
    (u : Value) (g : Nat) (hx : a.eval x = .slice (some ⟨g, 0, none⟩) 1 1) (hg : w.cell? ⟨g, 0, none⟩ = some u) (h1 : u.oneCell' = true)
    (hbytes : (n + 1) * bytes ≤ 140737488355328) (h63 : n + 1 ≤ maxLen) (hbase : base ≤ w.heap.size)
    (h : ∀ v' w', w'.ownsRow base e 1 v' (n + 1) (xs ++ [u]) → Below base w0 w' → w.grownBy w' v.ownBlock → wpList P ops Q rest (a.put o.dst v') w') :
    wpList P ops Q (o :: rest) a w := by
  refine wpList_append_own _ hgd s x t ho base e i z 1 bytes ht hi hz hsize hby hzs (by decide) v n xs hs hown ⟨g, 0, none⟩ 1 1 [u] hx rfl ?_ ?_ h63 hbytes hbase ?_
  · intro j u' hj
    match j, hj with
    | 0, hj => simp at hj; subst hj; simpa [Addr.add] using hg
  · intro u' hu; simp at hu; subst hu; exact h1
  · intro v' w' h2 h3 _
    exact h v' w' h2 (hb.grown h3 hbase (fun k hk => (hown.lt k hk).1)) h3

theorem quiet_add {P : Program} {f : FuncId} {args : Array Value} {w : World} {a n : Nat} {v : Value}
    (h : Calls P f args (w.drewN (a + n)) fun e w' => e = .returned v ∧ ∃ m, w' = (w.drewN (a + n)).drewN m) :
    Calls P f args (w.drewN (a + n)) fun e w'' => e = .returned v ∧ ∃ m, w'' = w.drewN (a + m) :=
  h.mono fun _ _ ⟨he, m, hm⟩ => ⟨he, n + m, by rw [hm, World.drewN_drewN, Nat.add_assoc]⟩
theorem quiet_add_same {P : Program} {f : FuncId} {args : Array Value} {w : World} {a n : Nat} {v : Value}
    (h : Calls P f args (w.drewN (a + n)) fun e w' => e = .returned v ∧ w' = w.drewN (a + n)) :
    Calls P f args (w.drewN (a + n)) fun e w'' => e = .returned v ∧ ∃ m, w'' = w.drewN (a + m) :=
  h.mono fun _ _ ⟨he, hm⟩ => ⟨he, n, hm⟩

end Go.Proofs.Ytgejpggbmgiocaa
/- From the form's reading of an argument to plain lists; from a call that answers true to the row. Over any program. -/
namespace Go.Proofs.Ytgejpggbmgiocaa
open Go.RowKit Go.ChangeShapes Go.WideShapes Go.ChangeAt Go.Deep

section
variable {H : Type} {enc : TypeId × Value → H} {P : Program}
theorem post_of_below {f : Func} {s : ChangeSpec} {apart fresh handsOn again : Bool} {W W' : World} {args : Array Value} {v : Value} {ds gs : List (DataW H)} {before pa pv : List MemPlace}
    (hW : DataW.Whole enc P f.params.toList s.vars apart W args.toList ds gs before)
    (hres : ∀ (b : Nat) (sp : Nat → Bool) (hd : Bool), DataW.TrodAll enc P W' b sp hd f.resultTypes.toList (v.resultList f.resultTypes.size) (s.fn H (ds ++ gs)).results [])
    (hargs : ∀ sp : Nat → Bool, (∀ p ∈ before, sp p.block = true) → DataW.TrodAll enc P W' 0 sp true f.params.toList args.toList (s.fn H (ds ++ gs)).args pa)
    (hvars : ∀ sp : Nat → Bool, (∀ p ∈ before, sp p.block = true) → DataW.TrodVars enc P W' sp s.vars (s.fn H (ds ++ gs)).vars pv)
    (hps : before = pa ++ pv) (hb : Below W.heap.size W W')
    (hok : ∀ (j : Nat) (t : TypeId) (r : Value), f.resultTypes[j]? = some t → (v.resultList f.resultTypes.size)[j]? = some r → Value.okWide P W' .any 0 t r) :
    s.post enc P f apart fresh handsOn again W args v W' := by
  have hlt : ∀ p ∈ before, p.block < W.heap.size := fun p hp => hW.lt p hp
  have hold : ∀ p ∈ before, (fun b => decide (b < W.heap.size)) p.block = true := fun p hp => by simpa using hlt p hp
  refine ⟨ds, gs, before, [], pa, pv, hW, hres _ _ _, hargs _ hold, hvars _ hold, World.keptBut_mono (fun p hp => ⟨hp, ?_⟩) (hb.frame (· ∈ before)), fun _ => ?_⟩
  · rw [hps, List.mem_append] at hp
    exact Or.inr hp
  · obtain ⟨_, _, _, _, _, hz, hn⟩ := hW
    refine ⟨hok, _, _, ([] ++ pa) ++ pv, ⟨[] ++ pa, pv, trodAll_append (hargs _ (fun _ _ => rfl)) (hres _ _ _), hvars _ (fun _ _ => rfl), rfl, ?_, ?_⟩, ?_⟩
    · intro b off hp
      have hin : MemPlace.cell b off ∈ before := by rw [hps]; simpa using hp
      rw [hb.frozen (hlt _ hin)]
      exact hz b off hin
    · intro ha
      have := hn ha
      rw [hps] at this
      simpa using this
    · intro p hp _
      rw [hps]
      simpa using hp

theorem trodAll_stays (hl : laidOutB P = true) {W W' : World} {sp' : Nat → Bool} : ∀ {ts : List TypeId} {vs : List Value} {ds : List (DataW H)} {ps : List MemPlace}, (∀ t ∈ ts, P.readableRec t = true ∧ t < P.types.size) →
    DataW.TrodAll enc P W 0 (fun _ => true) true ts vs ds ps → (∀ p ∈ ps, W.sameAt W' p) → (∀ p ∈ ps, sp' p.block = true) → DataW.TrodAll enc P W' 0 sp' true ts vs ds ps
  | [], vs, ds, ps, _, h, _, _ => by
    obtain ⟨rfl, rfl, rfl⟩ := trodAll_nil h
    exact trodAll_mk0
  | t :: ts, vs, ds, ps, hr, h, h1, h2 => by
    obtain ⟨v, vs', d, ds', p, q, rfl, rfl, rfl, hd, hrest⟩ := trodAll_cons h
    obtain ⟨ht, hts⟩ := hr t (by simp)
    exact ⟨p, q, WideElems.Trod_stays hl ht hts hd (fun x hx => h1 x (by simp [hx])) (fun x hx => h2 x (by simp [hx])),
      trodAll_stays hl (fun t' h' => hr t' (by simp [h'])) hrest (fun x hx => h1 x (by simp [hx])) (fun x hx => h2 x (by simp [hx])), rfl⟩

/-- a law that has answered true, in a world that is as it was below the old heap's end -/
theorem law_post {f : Func} {s : ChangeSpec} {apart fresh handsOn again : Bool} {W W' : World} {args : Array Value} {ds : List (DataW H)} {before : List MemPlace} {tb : TypeId}
    (hl : laidOutB P = true) (hts : ∀ t ∈ f.params.toList, P.readableRec t = true ∧ t < P.types.size) (hvars : s.vars = []) (hrt : f.resultTypes = #[tb]) (hb : P.underlying tb = some .bool)
    (hW : DataW.Whole enc P f.params.toList s.vars apart W args.toList ds [] before)
    (hr : (s.fn H (ds ++ [])).results = [.lit (.bool true)]) (ha : (s.fn H (ds ++ [])).args = ds) (hv : (s.fn H (ds ++ [])).vars = []) (hbel : Below W.heap.size W W') :
    s.post enc P f apart fresh handsOn again W args (.bool true) W' := by
  have hW0 := hW
  obtain ⟨p, q, hA, hV, hpq, _, _⟩ := hW
  rw [hvars] at hV
  have hq : q = [] := hV
  subst hq
  have hp : before = p := by simpa using hpq
  subst hp
  refine post_of_below (pa := before) (pv := []) hW0 (fun b sp hd => ?_) (fun sp hsp => ?_) (fun sp hsp => ?_) (by simp) hbel (ok_one hrt rfl (okWide_bool_mk hb true))
  · rw [hr, hrt]
    exact trodAll_mk1 (shut_bool hb true)
  · rw [ha]
    exact trodAll_stays hl hts hA (fun x hx => hbel.same (hW0.lt x hx)) hsp
  · rw [hv, hvars]
    exact rfl

/-- a slice: element k's cells read as xs[k] -/
def SlR {α : Type} (w : World) (R : World → List Value → α → Prop) (size : Nat) (A : Option Addr) (n : Nat) (xs : List α) : Prop :=
  xs.length = n ∧ (0 < n → ∃ b off, A = some ⟨b, off, none⟩ ∧ ∀ k (hk : k < xs.length), ∃ cs', cs'.length = size ∧ (∀ j, j < size → w.cell? ⟨b, off + (k * size + j), none⟩ = cs'[j]?) ∧ R w cs' xs[k])

theorem list_of_all {α : Type} {Q : Nat → α → Prop} : ∀ n, (∀ i, i < n → ∃ a, Q i a) → ∃ xs : List α, xs.length = n ∧ ∀ i (h : i < xs.length), Q i xs[i]
  | 0, _ => ⟨[], rfl, fun i h => absurd h (by simp)⟩
  | n + 1, h => by
    obtain ⟨xs, hl, hx⟩ := list_of_all n (fun i hi => h i (by omega))
    obtain ⟨a, ha⟩ := h n (by omega)
    refine ⟨xs ++ [a], by simp [hl], fun i hi => ?_⟩
    by_cases hin : i < n
    · rw [List.getElem_append_left (by omega)]
      exact hx i (by omega)
    · have : i = n := by simp at hi; omega
      subst this
      simp [hl]
      exact ha

/-- every string, slice and map of a datum is within the form's reach -/
def Wt (P : Program) (t : TypeId) (d : DataW H) : Prop := ∀ n ∈ d.weights P t, n ≤ reachBytes
theorem Wt.of_arg {ts : List TypeId} {ds : List (DataW H)} {j : Nat} {t : TypeId} {d : DataW H} (h : (DataW.weightsEach P ts ds).all (· ≤ reachBytes) = true) (ht : ts[j]? = some t) (hd : ds[j]? = some d) : Wt P t d := fun n hn => by
  simpa using List.all_eq_true.1 h _ (DataW.weights_mem_each ht hd n hn)
theorem weightsAll_mem {e : TypeId} {d : DataW H} : ∀ {l : List (DataW H)}, d ∈ l → ∀ n ∈ d.weights P e, n ∈ DataW.weightsAll P e l
  | x :: r, h, n, hn => by
    simp only [DataW.weightsAll, List.mem_append]
    rcases List.mem_cons.1 h with rfl | h
    · exact .inl hn
    · exact .inr (weightsAll_mem h n hn)
theorem Wt.slice {t e : TypeId} {el sp : List (DataW H)} (hu : P.underlying t = some (.slice e)) (h : Wt P t (.slice el sp)) : (el.length + sp.length) * P.bytesOf e ≤ reachBytes ∧ ∀ d ∈ el, Wt P e d := by
  unfold Wt at h
  simp only [DataW.weights, hu] at h
  exact ⟨h _ (by simp), fun d hd n hn => h n (by simp [weightsAll_mem hd n hn])⟩
theorem Wt.struct {t : TypeId} {fs : Array Field} {parts : List (DataW H)} {j : Nat} {f : Field} {d : DataW H} (hu : P.underlying t = some (.struct fs)) (h : Wt P t (.agg parts)) (hj : fs[j]? = some f) (hd : parts[j]? = some d) : Wt P f.type d := by
  unfold Wt at h
  simp only [DataW.weights, hu] at h
  exact fun n hn => h n (DataW.weights_mem_each (j := j) (by simp [hj]) hd n hn)
theorem Wt.array {t e : TypeId} {k : Nat} {parts : List (DataW H)} (hu : P.underlying t = some (.array k e)) (h : Wt P t (.agg parts)) : ∀ d ∈ parts, Wt P e d := by
  unfold Wt at h
  simp only [DataW.weights, hu] at h
  exact fun d hd n hn => h n (weightsAll_mem hd n hn)

theorem open_sl {w : World} {base : Nat} {spare : Nat → Bool} {held : Bool} {t e : TypeId} {size : Nat} {α : Type} {R : World → List Value → α → Prop} (ht : P.underlying t = some (.slice e)) (hC : P.cellsOf e = size) (hpos : 0 < size)
    (he : ∀ (n : Nat) (cs : List Value) (x : DataW H × List MemPlace), DataW.trod enc P w base spare held n e cs = some x → Wt P e x.1 → ∃ a, R w cs a)
    {fuel : Nat} {cs : List Value} {x : DataW H × List MemPlace} (h : DataW.trod enc P w base spare held fuel t cs = some x) (hw : Wt P t x.1) :
    ∃ A n c xs, cs = [.slice A n c] ∧ SlR w R size A n xs ∧ n ≤ c ∧ c ≤ maxLen ∧ n * P.bytesOf e ≤ reachBytes := by
  rcases open_slice ht h with ⟨rfl, rfl⟩ | ⟨a, len, cap, m, n, D, Pl, rfl, _, hl, hm, hmm, rfl, hi⟩
  · exact ⟨none, 0, 0, [], rfl, ⟨rfl, fun h => absurd h (by omega)⟩, by omega, by decide, by simp⟩
  · rw [hC] at hi
    obtain ⟨hw1, hw2⟩ := hw.slice ht
    have hml : len ≤ m := by rw [hmm]; split <;> omega
    obtain ⟨xs, hxl, hx⟩ := list_of_all (Q := fun i (b : α) => ∃ cs', cs'.length = size ∧ (∀ j, j < size → w.cell? ((a.add (i * size)).add j) = cs'[j]?) ∧ R w cs' b) len (fun i hi' => by
      obtain ⟨cs', hc, htr⟩ := hi i (by omega)
      obtain ⟨a', ha'⟩ := he _ _ _ htr (hw2 _ (by simpa using ⟨i, hi', rfl⟩))
      obtain ⟨_, h1, h2⟩ := World.cells?_some hc
      exact ⟨a', cs', h1, h2, ha'⟩)
    refine ⟨some a, len, cap, xs, rfl, ⟨hxl, fun hn => ?_⟩, by omega, by omega, Nat.le_trans (Nat.mul_le_mul_right _ (by simp)) hw1⟩
    obtain ⟨b, off, spot⟩ := a
    have hspot : spot = none := by
      obtain ⟨cs', h1, h2, _⟩ := hx 0 (by omega)
      have h3 := h2 0 hpos
      have h4 : cs'[0]? = some cs'[0] := List.getElem?_eq_getElem (by omega)
      rw [h4] at h3
      simpa [Addr.add] using World.cell?_spot h3
    subst hspot
    refine ⟨b, off, rfl, fun k hk => ?_⟩
    obtain ⟨cs', h1, h2, h3⟩ := hx k hk
    refine ⟨cs', h1, fun j hj => ?_, h3⟩
    rw [← h2 j hj, add_of_add]
    congr 1
    unfold Addr.add
    split <;> simp_all

/-- a cell that is an int of a kind -/
theorem open_num {w : World} {base : Nat} {spare : Nat → Bool} {held : Bool} {ti : TypeId} {q : IntKind} (hi : P.underlying ti = some (.int q)) (n : Nat) (cs : List Value) (x : DataW H × List MemPlace)
    (h : DataW.trod enc P w base spare held n ti cs = some x) (_ : Wt P ti x.1) : ∃ a : Int, cs = [.int q a] ∧ (Lit.int q a).wf = true := by
  obtain ⟨a, e, _, hw⟩ := DataW.trod_int hi h
  exact ⟨a, e, hw⟩

/-- a struct of fields of one cell each, two of them ints -/
theorem open_pair {w : World} {base : Nat} {spare : Nat → Bool} {held : Bool} {e ti : TypeId} {f0 f1 : Field} (hs : P.underlying e = some (.struct #[f0, f1])) (ho0 : f0.offset = 0) (ho1 : f1.offset = 1) (ht0 : f0.type = ti) (ht1 : f1.type = ti)
    (hi : P.underlying ti = some (.int .i64)) (hc : P.cellsOf ti = 1) (hce : P.cellsOf e = 2)
    (n : Nat) (cs : List Value) (x : DataW H × List MemPlace) (h : DataW.trod enc P w base spare held n e cs = some x) (_ : Wt P e x.1) :
    ∃ a : Int × Int, cs = [.int .i64 a.1, .int .i64 a.2] := by
  obtain ⟨xs, m, _, _, hlen, hxl, hf⟩ := DataW.trod_struct hs h
  rw [hce] at hlen
  match cs, hlen with
  | [c0, c1], _ =>
    have h0 := hf 0 f0 rfl
    have h1 := hf 1 f1 rfl
    rw [ho0, ht0, hc] at h0
    rw [ho1, ht1, hc] at h1
    match xs, hxl with
    | [y0, y1], _ =>
      obtain ⟨a, e0, _, _⟩ := DataW.trod_int hi h0
      obtain ⟨b, e1, _, _⟩ := DataW.trod_int hi h1
      simp at e0 e1
      exact ⟨(a, b), by rw [e0, e1]⟩

theorem SlR.arr {α : Type} {w : World} {R : World → List Value → α → Prop} {size : Nat} {A : Option Addr} {n : Nat} {xs : List α} (h : SlR w R size A n xs) (hs : 0 < size) (C : Nat → Nat → Value)
    (hC : ∀ k (hk : k < xs.length) cs, R w cs xs[k] → cs.length = size → ∀ j, j < size → cs[j]? = some (C k j)) : Arr w w.heap.size size A n C := by
  intro hn
  obtain ⟨b, off, hA, hx⟩ := h.2 hn
  have hcell : ∀ k j, k < n → j < size → w.cell? ⟨b, off + (k * size + j), none⟩ = some (C k j) := by
    intro k j hk hj
    obtain ⟨cs, h1, h2, h3⟩ := hx k (by rw [h.1]; exact hk)
    rw [h2 j hj, hC k _ cs h3 h1 j hj]
  exact ⟨b, off, hA, by have := World.block_lt_of_cell? _ _ (hcell 0 0 hn hs); simpa using this, hcell⟩
end
end Go.Proofs.Ytgejpggbmgiocaa
/- How numbers are mixed: the program's and the reference's functions give one and the same. -/
namespace Go.Proofs.Ytgejpggbmgiocaa
open Go.RowKit

def mixA (s k : Int) : Int := IntKind.u64.wrap (k + IntKind.u64.wrap ((s + 1) * 11400714819323198485))
def mixB (a c m : Int) : Int := IntKind.u64.wrap (bits BinOp.xor IntKind.u64 a (a / c) * m)
def mixC (a c : Int) : Int := bits BinOp.xor IntKind.u64 a (a / c)
def mix (s k : Int) : Int := mixC (mixB (mixB (mixA s k) 1073741824 13787848793156543929) 134217728 10723151780598845931) 2147483648

theorem wrap_u64_bd (x : Int) : 0 ≤ IntKind.u64.wrap x ∧ IntKind.u64.wrap x < 18446744073709551616 := by
  have : IntKind.u64.wrap x = x % 18446744073709551616 := by simp [IntKind.wrap_u64]
  rw [this]
  exact ⟨Int.emod_nonneg _ (by decide), Int.emod_lt_of_pos _ (by decide)⟩
theorem wrap_u64_in (x : Int) (h0 : 0 ≤ x) (h1 : x < 18446744073709551616) : IntKind.u64.wrap x = x := by
  have : IntKind.u64.wrap x = x % 18446744073709551616 := by simp [IntKind.wrap_u64]
  rw [this]
  exact Int.emod_eq_of_lt h0 h1
theorem wrap_tdiv (a c : Int) (h0 : 0 ≤ a) (h1 : a < 18446744073709551616) (hc : 0 < c) : IntKind.u64.wrap (a.tdiv c) = a / c := by
  rw [Int.tdiv_eq_ediv_of_nonneg h0]
  refine wrap_u64_in _ (Int.ediv_nonneg h0 (by omega)) (Int.lt_of_le_of_lt (Int.ediv_le_self _ h0) h1)
theorem mixA_bd (s k : Int) : 0 ≤ mixA s k ∧ mixA s k < 18446744073709551616 := wrap_u64_bd _
theorem mixB_bd (a c m : Int) : 0 ≤ mixB a c m ∧ mixB a c m < 18446744073709551616 := wrap_u64_bd _
theorem mix_bd (s k : Int) : 0 ≤ mix s k ∧ mix s k < 18446744073709551616 := wrap_u64_bd _

theorem ret_u64 {a b : Int} (h : a = b) : Ending.returned (.int .u64 a) = .returned (.int .u64 b) := by rw [h]
set_option maxHeartbeats 400000 in
theorem mix_any (s k : Int) (w : World) (hs0 : 0 ≤ s) (hs1 : s < 4294967296) :
    Calls Try.prog 37 #[.int .u32 s, .int .u64 k] w fun e w' => e = .returned (.int .u64 (mix s k)) ∧ w' = w := by
  go_enter Try.func37, Try.ntmps37
  go_wp2
  go_ret
  exact ⟨ret_u64 rfl, rfl⟩
theorem fold_t (a c : Int) (h0 : 0 ≤ a) (h1 : a < 18446744073709551616) (hc : 0 < c) : bits BinOp.xor IntKind.u64 a (IntKind.u64.wrap (a.tdiv c)) = mixC a c := by
  rw [wrap_tdiv a c h0 h1 hc]; rfl
theorem mix_ref (s k : Int) : mix s k =
   (let a := mixA s k
    let b := IntKind.u64.wrap (bits BinOp.xor IntKind.u64 a (IntKind.u64.wrap (a.tdiv 1073741824)) * 13787848793156543929)
    let c := IntKind.u64.wrap (bits BinOp.xor IntKind.u64 b (IntKind.u64.wrap (b.tdiv 134217728)) * 10723151780598845931)
    bits BinOp.xor IntKind.u64 c (IntKind.u64.wrap (c.tdiv 2147483648))) := by
  have hA := mixA_bd s k
  dsimp only
  rw [wrap_tdiv _ 1073741824 hA.1 hA.2 (by decide)]
  have hB := mixB_bd (mixA s k) 1073741824 13787848793156543929
  have eB : IntKind.u64.wrap (bits BinOp.xor IntKind.u64 (mixA s k) (mixA s k / 1073741824) * 13787848793156543929) = mixB (mixA s k) 1073741824 13787848793156543929 := rfl
  rw [eB, wrap_tdiv _ 134217728 hB.1 hB.2 (by decide)]
  have hC := mixB_bd (mixB (mixA s k) 1073741824 13787848793156543929) 134217728 10723151780598845931
  have eC : IntKind.u64.wrap (bits BinOp.xor IntKind.u64 (mixB (mixA s k) 1073741824 13787848793156543929) (mixB (mixA s k) 1073741824 13787848793156543929 / 134217728) * 10723151780598845931) = mixB (mixB (mixA s k) 1073741824 13787848793156543929) 134217728 10723151780598845931 := rfl
  rw [eC, wrap_tdiv _ 2147483648 hC.1 hC.2 (by decide)]
  rfl
set_option maxHeartbeats 400000 in
theorem rmix_any (s k : Int) (w : World) (hs0 : 0 ≤ s) (hs1 : s < 4294967296) :
    Calls Try.prog 40 #[.int .u32 s, .int .u64 k] w fun e w' => e = .returned (.int .u64 (mix s k)) ∧ w' = w := by
  have HR := Lib.hid (mix_ref s k)
  go_enter Try.func40, Try.ntmps40
  go_wp2
  go_ret
  rw [HR.out]
  exact ⟨ret_u64 rfl, rfl⟩
end Go.Proofs.Ytgejpggbmgiocaa
