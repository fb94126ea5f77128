/- mini.parts. -/
import Derived.Test.YtiaigdedkdeeoaaMiRef
namespace Go.Proofs.Ytiaigdedkdeeoaa
open Go.RowKit Go.Maps Go.WideMaps

theorem distL_le (l : List Int) : (distL l).length ≤ l.length := nodup_subI l (distL l) (distL_nodup l) (fun _ hx => (distL_mem.1 hx).1)
theorem range_get (l : List Int) {n : Nat} (h : l.length = n) : (List.range n).map (fun i => l.getD i 0) = l := by
  apply List.ext_getElem (by simp [h])
  intro i h1 h2
  simp [h2]
open Classical in
/-- finer parts are as many or more -/
theorem more_parts {n : Nat} {P Q : Nat → Int} (hd : ∀ i, i < n → (0 ≤ P i ↔ 0 ≤ Q i)) (hf : ∀ i j, i < n → j < n → 0 ≤ P i → Q i = Q j → P i = P j) : (distL ((List.range n).map P)).length ≤ (distL ((List.range n).map Q)).length := by
  let f : Int → Int := fun q => if h : ∃ k, k < n ∧ 0 ≤ P k ∧ Q k = q then P (Classical.choose h) else 0
  have hfq : ∀ k, k < n → 0 ≤ P k → f (Q k) = P k := fun k hk h => by
    have hh : ∃ k', k' < n ∧ 0 ≤ P k' ∧ Q k' = Q k := ⟨k, hk, h, rfl⟩
    show (if h : ∃ k', k' < n ∧ 0 ≤ P k' ∧ Q k' = Q k then P (Classical.choose h) else 0) = P k
    rw [dif_pos hh]
    have hs := Classical.choose_spec hh
    exact hf _ _ hs.1 hk hs.2.1 hs.2.2
  have h1 := nodup_subI ((distL ((List.range n).map Q)).map f) (distL ((List.range n).map P)) (distL_nodup _) (fun x hx => by
    rw [distL_mem] at hx
    obtain ⟨k, hk, rfl⟩ := List.mem_map.1 hx.1
    have hk := List.mem_range.1 hk
    refine List.mem_map.2 ⟨Q k, ?_, hfq k hk hx.2⟩
    rw [distL_mem]
    exact ⟨List.mem_map.2 ⟨k, List.mem_range.2 hk, rfl⟩, (hd k hk).1 hx.2⟩)
  rwa [List.length_map] at h1
def nP (q : List Int) : Nat → Int := fun i => q.getD i 0
/-- the first parts: dead ones, those that accept, the others -/
def part0 (lv acc : List Bool) (i : Nat) : Int := if lv.getD i false = true then (if acc.getD i false = true then 1 else 0) else -1
theorem part0_ok {A : Aut} {lv acc : List Bool} (hl : ∀ i, i < A.n → (lv.getD i false = true ↔ Live A i)) (ha : ∀ i, i < A.n → A.acc i = acc.getD i false) {q : List Int} (hq : ∀ i, i < A.n → q.getD i 0 = part0 lv acc i) : PartOk A (nP q) := by
  refine ⟨fun i hi hd => ?_, fun i hi hv => ?_, fun i j hi hj he => ?_, fun i j hi hj hv he => ?_⟩
  · show q.getD i 0 = -1
    rw [hq i hi]; unfold part0
    rw [if_neg (fun h9 => hd ((hl i hi).1 h9))]
  · show 0 ≤ q.getD i 0
    rw [hq i hi]; unfold part0
    rw [if_pos ((hl i hi).2 hv)]
    split <;> omega
  · show q.getD i 0 = q.getD j 0
    have h1 := he.acc
    rw [ha i hi, ha j hj] at h1
    rw [hq i hi, hq j hj]; unfold part0
    by_cases hv : Live A i
    · rw [if_pos ((hl i hi).2 hv), if_pos ((hl j hj).2 (he.live.1 hv)), h1]
    · rw [if_neg (fun h9 => hv ((hl i hi).1 h9)), if_neg (fun h9 => hv (he.live.2 ((hl j hj).1 h9)))]
  · have he : q.getD i 0 = q.getD j 0 := he
    rw [hq i hi, hq j hj] at he
    rw [ha i hi, ha j hj]
    unfold part0 at he
    rw [if_pos ((hl i hi).2 hv)] at he
    by_cases hj9 : lv.getD j false = true
    · rw [if_pos hj9] at he
      cases hi2 : acc.getD i false <;> cases hj2 : acc.getD j false <;> rw [hi2, hj2] at he <;> first | rfl | (simp at he)
    · rw [if_neg hj9] at he
      split at he <;> omega
/-- what parts tell in the end -/
structure Parted (A : Aut) (q : List Int) : Prop where
  ok : PartOk A (nP q)
  iff : ∀ i j, i < A.n → j < A.n → Live A i → (q.getD i 0 = q.getD j 0 ↔ LE A A i j)
theorem parted_of {A : Aut} (hok : A.Ok) {p q : List Int} (hp : p.length = A.n) (hq : q.length = A.n) (h : PartOk A (nP p)) (hf : Fine A (nP p) (nP q)) (hc : (distL q).length ≤ (distL p).length) : Parted A q := by
  have hd : ∀ i, i < A.n → (0 ≤ nP p i ↔ 0 ≤ nP q i) := fun i hi => ⟨hf.live i hi, fun h9 => by
    apply Classical.byContradiction
    intro h8
    have := hf.dead i hi (by omega)
    omega⟩
  have hff : ∀ i j, i < A.n → j < A.n → 0 ≤ nP p i → nP q i = nP q j → nP p i = nP p j := fun i j hi hj h0 he => by
    have h1 : 0 ≤ nP p j := (hd j hj).2 (by rw [← he]; exact (hd i hi).1 h0)
    exact ((hf.iff i j hi hj h0 h1).1 he).1
  have hc' : (distL ((List.range A.n).map (nP q))).length ≤ (distL ((List.range A.n).map (nP p))).length := by
    rw [show (List.range A.n).map (nP q) = q from range_get q hq, show (List.range A.n).map (nP p) = p from range_get p hp]; exact hc
  have hs : ∀ i j, i < A.n → j < A.n → 0 ≤ nP p i → nP p i = nP p j → nP q i = nP q j := fun i j hi hj h0 he => same_parts hd hff hc' hi hj h0 he
  refine ⟨h.fine hok hf, fun i j hi hj hl => ?_⟩
  rw [← h.done hok hf hs hi hj hl]
  exact ⟨fun he => hff i j hi hj (h.live i hi hl) he, fun he => hs i j hi hj (h.live i hi hl) he⟩
theorem parts_more {A : Aut} {p q : List Int} (hp : p.length = A.n) (hq : q.length = A.n) (hf : Fine A (nP p) (nP q)) : (distL p).length ≤ (distL q).length := by
  have hd : ∀ i, i < A.n → (0 ≤ nP p i ↔ 0 ≤ nP q i) := fun i hi => ⟨hf.live i hi, fun h9 => by
    apply Classical.byContradiction
    intro h8
    have := hf.dead i hi (by omega)
    omega⟩
  have := more_parts hd (fun i j hi hj h0 he => by
    have h1 : 0 ≤ nP p j := (hd j hj).2 (by rw [← he]; exact (hd i hi).1 h0)
    exact ((hf.iff i j hi hj h0 h1).1 he).1)
  rwa [show (List.range A.n).map (nP q) = q from range_get q hq, show (List.range A.n).map (nP p) = p from range_get p hp] at this
theorem own_less {w : World} {base base' size n : Nat} {e : TypeId} {v : Value} {xs : List Value} (h : w.ownsRow base e size v n xs) (hb : base' ≤ base) : w.ownsRow base' e size v n xs := by
  refine ⟨h.1, ?_⟩
  rcases h.2 with h2 | ⟨g, cap, cur, hv, hg, r⟩
  · exact .inl h2
  · exact .inr ⟨g, cap, cur, hv, by omega, r⟩
theorem own_kept {w w' : World} {base size n : Nat} {e : TypeId} {v : Value} {xs : List Value} (h : w.ownsRow base e size v n xs) (hb : Below w.heap.size w w') : w'.ownsRow base e size v n xs := own_move h (fun b _ h9 ho _ => (hb.block b (h.lt b h9).2).trans ho)
theorem sm_of {q : List Int} (h : ∀ i, -1 ≤ q.getD i 0 ∧ q.getD i 0 ≤ 1000) : Sm q := fun k => by have := h k; omega
set_option maxRecDepth 100000 in
set_option maxHeartbeats 8000000 in
theorem parts_any (A : Aut) (hok : A.Ok) (A0 : Option Addr) (n c0 : Nat) (rows : List (List Int)) (RA : Nat → Option Addr) (rc : Nat → Nat) (A1 : Option Addr) (c1 : Nat) (acc : List Bool) (A2 : Option Addr) (c2 : Nat) (lv : List Bool) (u : Nat) (w : World)
    (hAn : A.n = n) (h0 : RowsIn w A0 n rows RA rc) (h1 : Arr w w.heap.size 1 A1 n (BoolC acc)) (h2 : Arr w w.heap.size 1 A2 n (BoolC lv)) (hn4 : n ≤ 400) (hu2 : u ≤ 256) (hg : Going A rows u)
    (hl : ∀ i, i < A.n → (lv.getD i false = true ↔ Live A i)) (ha : ∀ i, i < A.n → A.acc i = acc.getD i false) :
    Calls Try.prog 21 #[.slice A0 n c0, .slice A1 n c1, .slice A2 n c2] w fun e w' => ∃ v q, e = .returned v ∧ w'.ownsRow w.heap.size 3 1 v n (numsV .i64 q) ∧ q.length = n ∧ (∀ i, -1 ≤ q.getD i 0 ∧ q.getD i 0 ≤ 1000) ∧ Parted A q ∧ Below w.heap.size w w' := by
  have hmk := make_one 34 3 (.int .i64 0) 8 Try.underlying34 info3 rfl n (by omega) (by omega)
  have hn1 : 1 ≤ n := by have := hok.pos; omega
  have HC := Lib.hid (And.intro hok (And.intro hAn (And.intro hg (And.intro hl ha))))
  have H0 := Lib.hid h0
  have H1 := Lib.hid h1
  have H2 := Lib.hid h2
  clear h0 h1 h2 hok hAn hg hl ha
  go_enter Try.func21, Try.ntmps21
  go_wp2_with fail
  clear hmk
  obtain ⟨g, hg⟩ : ∃ g, g = w.heap.size := ⟨_, rfl⟩
  have hb3 : Blk (w.alloc (.cells (Array.replicate n (Value.int .i64 0)) 3)) g 3 (numsV .i64 (List.replicate n 0)) := by
    rw [hg, show numsV .i64 (List.replicate n 0) = List.replicate n (Value.int .i64 0) by simp [numsV]]
    have := Blk.new w 3 (List.replicate n (Value.int .i64 0))
    simpa using this
  rw [← hg]
  have HG := Lib.hid hg
  have HB := Lib.hid hb3
  clear hg hb3
  go_loopw [16] (fun i wr => ∃ (k : Nat) (q : List Int), k ≤ n ∧ i = .int .i64 k ∧ Below w.heap.size w wr ∧ Blk wr g 3 (numsV .i64 q) ∧ q.length = n ∧ (∀ i, i < k → q.getD i 0 = part0 lv acc i) ∧ ∀ i, k ≤ i → q.getD i 0 = 0) (fun i _ => n - (intOf i).toNat)
  case atStart => exact ⟨0, _, by omega, rfl, (Below.refl _ _).alloc (Nat.le_refl _) _, HB.out, by simp, fun i hi => by omega, fun i _ => by rw [List.getD_eq_getElem?_getD, List.getElem?_replicate]; split <;> rfl⟩
  case round =>
    obtain ⟨k, q, hk, rfl, hbr, hbk, hql, hq1, hq2⟩ := hrel
    have HF := Lib.hid (And.intro hbr (And.intro hbk (And.intro hq1 hq2)))
    have HQL := Lib.hid hql
    clear hbr hbk hq1 hq2 hql HB
    by_cases hlt : k < n
    · obtain ⟨b1, o1, rfl, hbb1, hcell1⟩ := H1.out.one hlt
      obtain ⟨b2, o2, rfl, hbb2, hcell2⟩ := H2.out.one hlt
      unfold BoolC at hcell1 hcell2
      have hcell1 := (HF.out.1.cell (p := ⟨b1, o1 + k, none⟩) hbb1).trans hcell1
      have hcell2 := (HF.out.1.cell (p := ⟨b2, o2 + k, none⟩) hbb2).trans hcell2
      have hfz := HF.out.2.1.frozen k
      have hce := HF.out.2.1.cell k
      rw [nums_get (by rw [HQL.out]; exact hlt)] at hce
      have hnx : ∀ x, x = part0 lv acc k → Below w.heap.size w (wr.setCell ⟨g, k, none⟩ (.int .i64 x)) ∧ Blk (wr.setCell ⟨g, k, none⟩ (.int .i64 x)) g 3 (numsV .i64 (q.set k x)) ∧ (q.set k x).length = n ∧ (∀ i, i < k + 1 → (q.set k x).getD i 0 = part0 lv acc i) ∧ ∀ i, k + 1 ≤ i → (q.set k x).getD i 0 = 0 := fun x hx => by
        refine ⟨HF.out.1.setCell (p := ⟨g, k, none⟩) (by rw [HG.out]; exact Nat.le_refl _) _, by rw [← nums_set]; exact HF.out.2.1.set k _, by simp [HQL.out], fun i hi => ?_, fun i hi => ?_⟩
        · rw [List.getD_eq_getElem?_getD, List.getElem?_set]
          by_cases e : k = i
          · subst e; rw [if_pos rfl, if_pos (by rw [HQL.out]; exact hlt)]; exact hx
          · rw [if_neg e, ← List.getD_eq_getElem?_getD]; exact HF.out.2.2.1 i (by omega)
        · rw [List.getD_eq_getElem?_getD, List.getElem?_set, if_neg (by omega), ← List.getD_eq_getElem?_getD]; exact HF.out.2.2.2 i (by omega)
      have hnz : part0 lv acc k = 0 → (∀ i, i < k + 1 → q.getD i 0 = part0 lv acc i) ∧ ∀ i, k + 1 ≤ i → q.getD i 0 = 0 := fun hz => ⟨fun i hi => by
        by_cases e : i = k
        · subst e; rw [hz]; exact HF.out.2.2.2 i (Nat.le_refl _)
        · exact HF.out.2.2.1 i (by omega), fun i hi => HF.out.2.2.2 i (by omega)⟩
      have HN := Lib.hid (And.intro hnx hnz)
      have hp0 : part0 lv acc k = if lv.getD k false = true then (if acc.getD k false = true then 1 else 0) else -1 := rfl
      clear hnx hnz
      obtain ⟨bl, hbl⟩ : ∃ bl, bl = lv.getD k false := ⟨_, rfl⟩
      obtain ⟨ba, hba⟩ : ∃ ba, ba = acc.getD k false := ⟨_, rfl⟩
      rw [← hbl, ← hba] at hp0
      rw [← hbl] at hcell2
      rw [← hba] at hcell1
      clear hbl hba
      cases bl with
      | false =>
        have HP := Lib.hid hp0
        clear hp0
        go_wp2_with fail
        go_roundw
        case rel => exact ⟨k + 1, q.set k (-1), by omega, by go_num, (HN.out.1 (-1) (by rw [HP.out]; rfl))⟩
        case measure => simp [intOf]; omega
      | true =>
        cases ba with
        | true =>
          have HP := Lib.hid hp0
          clear hp0
          go_wp2_with fail
          go_roundw
          case rel => exact ⟨k + 1, q.set k 1, by omega, by go_num, (HN.out.1 1 (by rw [HP.out]; rfl))⟩
          case measure => simp [intOf]; omega
        | false =>
          have HP := Lib.hid hp0
          clear hp0
          go_wp2_with fail
          go_roundw
          case rel => exact ⟨k + 1, q, by omega, by go_num, HF.out.1, HF.out.2.1, HQL.out, HN.out.2 (by rw [HP.out]; rfl)⟩
          case measure => simp [intOf]; omega
    · obtain rfl : n = k := by omega
      have hpo : PartOk A (nP q) := part0_ok HC.out.2.2.2.1 HC.out.2.2.2.2 (fun i hi => HF.out.2.2.1 i (by rw [← HC.out.2.1]; exact hi))
      have hqs : ∀ i, -1 ≤ q.getD i 0 ∧ q.getD i 0 ≤ 1000 := fun i => by
        by_cases e : i < n
        · rw [HF.out.2.2.1 i e]
          unfold part0
          split
          · split <;> omega
          · omega
        · rw [HF.out.2.2.2 i (by omega)]; omega
      have hown : wr.ownsRow w.heap.size 3 1 (.slice (some ⟨g, 0, none⟩) n n) n (numsV .i64 q) := ⟨by simp [numsV, HQL.out], .inr ⟨g, n, (numsV .i64 q).toArray, rfl, by rw [HG.out]; exact Nat.le_refl _, HF.out.2.1, Nat.le_refl _, by simp [maxLen]; omega, by simp [numsV, HQL.out], by rw [List.toList_toArray, List.take_of_length_le (by simp [numsV, HQL.out])]⟩⟩
      have hcl := count_any (some ⟨g, 0, none⟩) n n q wr HQL.out (by omega) (sm_of hqs) (own_ints hown)
      have HK := Lib.hid (And.intro hpo (And.intro hqs (And.intro hown hcl)))
      clear hpo hqs hown hcl
      go_wp2_with fail
      refine HK.out.2.2.2.mono ?_
      rintro e w1 ⟨rfl, hb1⟩
      have hown1 := own_kept HK.out.2.2.1 hb1
      have hbel1 := HF.out.1.trans (hb1.mono HF.out.1.size)
      have HL := Lib.hid (And.intro hown1 hbel1)
      clear hown1 hb1 hbel1
      go_wp2_with fail
      go_loopw [7, 9] (fun a b wr => ∃ (A' : Option Addr) (c' : Nat) (p : List Int), a = .slice A' n c' ∧ b = .int .i64 ((distL p).length : Nat) ∧ p.length = n ∧ PartOk A (nP p) ∧ (∀ i, -1 ≤ p.getD i 0 ∧ p.getD i 0 ≤ 1000) ∧ wr.ownsRow w.heap.size 3 1 (.slice A' n c') n (numsV .i64 p) ∧ Below w.heap.size w wr) (fun _ b _ => n - (intOf b).toNat)
      case atStart => exact ⟨_, _, q, rfl, rfl, HQL.out, HK.out.1, HK.out.2.1, HL.out.1, HL.out.2⟩
      case round =>
        obtain ⟨A', c', p, rfl, rfl, hpl, hpo, hps, hown, hbel⟩ := hrel
        have HP := Lib.hid (And.intro hpo (And.intro hps (And.intro hown (And.intro hbel hpl))))
        have hrf := refined_any A0 n c0 rows RA rc A' c' p u wr (H0.out.keep (hbel.mono (Nat.le_refl _))) (own_ints hown) hpl hn1 hn4 (fun i hi => HC.out.2.2.1.wid i (by rw [HC.out.2.1]; exact hi)) hu2 (fun i c hi hc => by
          obtain ⟨b, hb, hall⟩ := HC.out.2.2.1.bwd c hc
          rw [hall i (by rw [HC.out.2.1]; exact hi)]
          have h1 := HC.out.1.lo i b (by rw [HC.out.2.1]; exact hi) hb
          have h2 := HC.out.1.hi i b (by rw [HC.out.2.1]; exact hi) hb
          rw [HC.out.2.1] at h2
          exact ⟨h1, h2⟩) hps
        have HR := Lib.hid hrf
        clear hrf HL HK hpo hps hown hbel hpl
        obtain ⟨z, hz⟩ : ∃ z : Nat, z = (distL p).length := ⟨_, rfl⟩
        rw [← hz]
        have HZ := Lib.hid hz
        clear hz
        go_wp2_with fail
        refine HR.out.mono ?_
        rintro e w1 ⟨v, r, rfl, hown1, hrl, hfc, hrs, hb1⟩
        obtain ⟨A2', c2', rfl⟩ := own_sl hown1
        have hcl := count_any A2' n c2' r w1 hrl (by omega) (sm_of hrs) (own_ints hown1)
        have hbel1 := HP.out.2.2.2.1.trans (hb1.mono HP.out.2.2.2.1.size)
        have HQ := Lib.hid (And.intro (own_less hown1 HP.out.2.2.2.1.size) (And.intro hrl (And.intro hfc (And.intro hrs (And.intro hbel1 hcl)))))
        clear hown1 hrl hfc hrs hbel1 hcl hb1 HR
        go_wp2_with fail
        refine HQ.out.2.2.2.2.2.mono ?_
        rintro e w2 ⟨rfl, hb2⟩
        obtain ⟨y, hy⟩ : ∃ y : Nat, y = (distL r).length := ⟨_, rfl⟩
        rw [← hy]
        have HY := Lib.hid hy
        clear hy
        have hown2 := own_kept HQ.out.1 hb2
        have hbel2 := HQ.out.2.2.2.2.1.trans (hb2.mono HQ.out.2.2.2.2.1.size)
        have hfi : Fine A (nP p) (nP r) := FineC.fine (by rw [HC.out.2.1]; exact HQ.out.2.2.1) HC.out.2.2.1
        have hmo := parts_more (by rw [HC.out.2.1]; exact HP.out.2.2.2.2) (by rw [HC.out.2.1]; exact HQ.out.2.1) hfi
        have hle := distL_le r
        rw [HQ.out.2.1] at hle
        rw [← HZ.out, ← HY.out] at hmo
        rw [← HY.out] at hle
        have HW := Lib.hid (And.intro hown2 (And.intro hbel2 hfi))
        clear hown2 hbel2 hfi hb2
        by_cases he : y = z
        · have d1 : ((y : Int) == (z : Int)) = true := by simp [he]
          have HE := Lib.hid he
          clear he
          go_wp2_with fail
          go_returns
          exact ⟨_, r, rfl, HW.out.1, HQ.out.2.1, HQ.out.2.2.2.1, parted_of HC.out.1 (by rw [HC.out.2.1]; exact HP.out.2.2.2.2) (by rw [HC.out.2.1]; exact HQ.out.2.1) HP.out.1 HW.out.2.2 (by rw [← HY.out, ← HZ.out, HE.out]; exact Nat.le_refl _), HW.out.2.1⟩
        · have d1 : ((y : Int) == (z : Int)) = false := by simp; omega
          have HE := Lib.hid he
          clear he
          go_wp2_with fail
          go_roundw
          case rel => exact ⟨A2', c2', r, rfl, by rw [HY.out], HQ.out.2.1, HP.out.1.fine HC.out.1 HW.out.2.2, HQ.out.2.2.2.1, HW.out.1, HW.out.2.1⟩
          case measure => have := HE.out; simp [intOf]; omega
end Go.Proofs.Ytiaigdedkdeeoaa
