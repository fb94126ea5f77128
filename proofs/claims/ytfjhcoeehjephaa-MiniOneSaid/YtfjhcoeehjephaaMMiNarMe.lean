/- mini.narrow. -/
import Derived.Test.YtfjhcoeehjephaaMMiGo0Me
import Derived.StillTailTactics
namespace Go.Proofs.Ytfjhcoeehjephaa.M9
open Go.RowKit Go.Maps Go.WideMaps
attribute [local go_sem ↓] load_26 load_48 store_26 store_48

def NatC (l : List Nat) : Nat → Nat → Value := fun k _ => .int .i64 ((l.getD k 0 : Nat) : Int)
theorem info5 : (Try.prog.info? 5).map (fun i => (i.zero, i.size, i.bytes)) = some (some (.int .u8 0), 1, 1) := by kernel_rfl
def bytesV (l : Bs) : List Value := l.map fun b => .int .u8 (b.toNat : Int)
theorem wrap_hi {x : Int} (h1 : -1 ≤ x) (h2 : x ≤ 65000) : IntKind.u8.wrap ((x + 1) / 256) = ((hiB x).toNat : Int) := by
  unfold hiB
  rw [UInt8.toNat_ofNat']
  rw [IntKind.wrap_u8]
  omega
theorem wrap_lo {x : Int} (h1 : -1 ≤ x) (h2 : x ≤ 65000) : IntKind.u8.wrap (x + 1) = ((loB x).toNat : Int) := by
  unfold loB
  rw [UInt8.toNat_ofNat']
  rw [IntKind.wrap_u8]
  omega
def colPre (wide : List (List Int)) (b t : Nat) : List Int := (colOf wide b).take t
theorem colPre_succ {wide : List (List Int)} {k t : Nat} (h : t < wide.length) : colPre wide k (t + 1) = colPre wide k t ++ [(wide.getD t []).getD k 0] := by
  unfold colPre colOf
  rw [List.take_succ_eq_append_getElem (by rw [List.length_map]; exact h)]
  simp [h]
theorem colPre_all {wide : List (List Int)} {k n : Nat} (h : wide.length = n) : colPre wide k n = colOf wide k := by
  unfold colPre
  rw [List.take_of_length_le (by rw [colOf, List.length_map]; omega)]
theorem wpList_lookup_text (w : World) {ops : Array Oper} {rest : List Oper} {o : Oper} {a : Act} {Q : Exit → Act → World → Prop}
    (hgd : o.guard = none) (m x : Operand) (hop : o.op = Op.lookup 78 m x true) (g n : Nat) (D : DataW Unit) (tx : List Bs) (hm : a.eval m = .map (some g))
    (hown : w.ownsMap Try.prog 9 (plainElem Try.prog 3) g n D) (hidx : IdxD textK D tx) (T : Bs) (hT : T.length ≤ 9223372036854775807) (s : ByteArray) (hs : s = ⟨T.toArray⟩) (hx : a.eval x = .string s)
    (iv : Int) (ok : Bool) (hiv : placeI tx T = iv) (hok : decide (T ∈ tx) = ok)
    (h : wpList Try.prog ops Q rest (a.put o.dst (.tuple #[.int .i64 iv, .bool ok])) w) :
    wpList Try.prog ops Q (o :: rest) a w := by
  refine wpList_plain hgd fun K' hK' => ?_
  have hrun : (Instr.lookup 78 (.map (some g)) (.string s) true).run Try.prog w = .ok (.tuple #[.int .i64 iv, .bool ok]) w := by
    rw [hs, idx_lookup (string_keyed Try.underlying9) Try.underlying78 hown hidx T hT (keyOf_text T hT), hiv, ← hok]; congr
  unfold Oper.wp
  simp [execOp, hop, hm, hx, hrun, Result.andThen]
  exact hK' _ _ h
theorem bytesV_app (a b : Bs) : bytesV (a ++ b) = bytesV a ++ bytesV b := by simp [bytesV]
set_option maxRecDepth 100000 in
set_option maxHeartbeats 16000000 in
theorem narrow_any (A0 : Option Addr) (n c0 : Nat) (wide : List (List Int)) (A1 : Option Addr) (c1 : Nat) (all : List Nat) (A2 : Option Addr) (n2 c2 : Nat) (acc : List Bool) (w : World)
    (h0 : Arr w w.heap.size 256 A0 n (WideC wide)) (hwl : wide.length = n) (hn1 : 1 ≤ n) (hn4 : n ≤ 400) (hwo : WideOk wide) (h1 : Arr w w.heap.size 1 A1 n (NatC all)) (hal : all.length = n) (h2 : Arr w w.heap.size 1 A2 n2 (BoolC acc)) (hlt : ∀ k, k < n → all.getD k 0 < n2) :
    Calls Try.prog 56 #[.slice A0 n c0, .slice A1 n c1, .slice A2 n2 c2] w fun e w' => ∃ ds Ax cx Ay cy RA rc, e = .returned (.agg ds) ∧ (∀ w'', But (fun k => k < w.heap.size) w' w'' → DfaIn w'' ds Ax Ay n n cx cy (narD wide all acc) RA rc) ∧ Below w.heap.size w w' := by
  obtain ⟨i3, hi3, hz3, hsz3, hbt3⟩ := info_parts info3
  obtain ⟨i5, hi5, hz5, hsz5, hbt5⟩ := info_parts info5
  have HC := Lib.hid (And.intro hwl (And.intro hwo (And.intro hal hlt)))
  have H0 := Lib.hid h0
  have H1 := Lib.hid h1
  have H2 := Lib.hid h2
  clear h0 h1 h2 hwl hwo hal hlt
  have hz26 := zeroV26
  have hmm := @run_makeMap Try.prog
  go_enter Try.func56, Try.ntmps56
  go_wp2_with fail
  clear hz26 hmm
  have hst : NarW w (((w.alloc (.cells zs26 30)).alloc (.cells zs26 30)).alloc (.map #[] 0)) (w.heap.size + 1 + 1) 0 (.map []) [] (.slice none 0 0) [] [] (.slice none 0 0) (.slice none 0 0) := by
    have b1 := blk_alloc w 30 zs26
    have b2 := blk_alloc (w.alloc (.cells zs26 30)) 30 zs26
    rw [World.size_alloc, zs26_cells] at b2
    have hm := World.ownsMap_made ((w.alloc (.cells zs26 30)).alloc (.cells zs26 30)) Try.prog 9 (plainElem (H := Unit) Try.prog 3)
    rw [World.size_alloc, World.size_alloc] at hm
    exact ⟨(((Below.refl _ _).alloc (Nat.le_refl _) _).alloc (by simp) _).alloc (by simp; omega) _, (b1.alloc _).alloc _, b2.alloc _, hm, idx_empty _, rfl, by omega, World.ownsRow_nil _ _ _ _⟩
  have HS := Lib.hid hst
  clear hst
  obtain ⟨gm, hgm⟩ : ∃ gm, gm = w.heap.size + 1 + 1 := ⟨_, rfl⟩
  rw [← hgm] at HS ⊢
  clear hgm
  generalize ((w.alloc (.cells zs26 30)).alloc (.cells zs26 30)).alloc (.map #[] 0) = w1 at HS ⊢
  go_loopw [9, 22] (fun vl i wr => ∃ (k m : Nat) (D : DataW Unit), k ≤ 256 ∧ i = .int .i64 k ∧ m ≤ k ∧ NarW w wr gm m D (texts wide (narrowK wide k).2) vl (narrowK wide k).2 (narrowK wide k).1 (.slice none 0 0) (.slice none 0 0)) (fun _ i _ => 256 - (intOf i).toNat)
  case atStart => exact ⟨0, 0, _, by omega, rfl, Nat.le_refl _, HS.out⟩
  case round =>
    obtain ⟨k, m, D, hk, rfl, hmk, hw⟩ := hrel
    have HW := Lib.hid hw
    obtain ⟨A5, c5, rfl⟩ := own_sl hw.own
    clear hw HS
    by_cases hlt : k < 256
    · go_wp2_with (first
        | (at_make; refine wpList_make_own _ rfl _ _ 75 rfl wr.heap.size 5 i5 _ 1 Try.underlying75 hi5 hz5 hsz5 .i64 .i64 _ (2 * n) rfl rfl (by omega) (by rw [hbt5]; omega) (by unfold maxLen; omega) (Nat.le_refl _) ?_; intro w2 hown2 hgrow2))
      have hb2 : Below wr.heap.size wr w2 := (Below.refl _ _).grown hgrow2 (Nat.le_refl _) (by simp)
      have H3 := Lib.hid (And.intro hb2 hown2)
      clear hb2 hown2 hgrow2
      obtain ⟨w3, rfl⟩ : ∃ w3 : World, w3 = wr := ⟨_, rfl⟩
      go_loopw [11, 31] (fun v i wx => ∃ (t : Nat) (A : Option Addr) (c : Nat), t ≤ n ∧ v = .slice A (2 * t) c ∧ i = .int .i64 t ∧ Below w3.heap.size w3 wx ∧ wx.ownsRow w3.heap.size 5 1 (.slice A (2 * t) c) (2 * t) (bytesV (colT (colPre wide k t)))) (fun _ i _ => n - (intOf i).toNat)
      case atStart => exact ⟨0, _, _, by omega, rfl, rfl, H3.out.1, H3.out.2⟩
      case round =>
        obtain ⟨t, A, c, ht, rfl, rfl, hb, hown⟩ := hrel
        have HT := Lib.hid (And.intro hb hown)
        clear hb hown H3
        by_cases htn : t < n
        · obtain ⟨b0, o0, e9, hb0, hrg⟩ := wide_range H0.out htn
          subst e9
          have hrg2 : wr.rangeAt b0 (o0 + t * 256) (rowV (wide.getD t [])) := fun j v hv => ((HW.out.bel.trans (HT.out.1.mono HW.out.bel.size)).cell (p := ⟨b0, o0 + t * 256 + j, none⟩) hb0).trans (hrg j v hv)
          have hld := loadB_run 104 hrg2 (by simp) (by rw [rowV_len]; rfl)
          have hz48 := zeroV48
          have hbk0 := blk_alloc wr 104 zs48
          have hsz : (rowV (wide.getD t [])).toArray.size = 256 := by rw [List.size_toArray, rowV_len]
          have hon := rowV_one (wide.getD t [])
          have hgt := rowV_get (wide.getD t []) hlt
          have hnx := HC.out.2.1 t k
          obtain ⟨x, hx⟩ : ∃ x, x = (wide.getD t []).getD k 0 := ⟨_, rfl⟩
          rw [← hx] at hgt hnx
          have HX := Lib.hid hx
          obtain ⟨rr, hrr⟩ : ∃ rr, rr = (rowV (wide.getD t [])).toArray := ⟨_, rfl⟩
          have hgt' : rr.toList[k]? = some (.int .i64 x) := by rw [hrr]; exact hgt
          rw [← hrr] at hld hsz hon
          have hst := storeB_run 104 hbk0 (by simp) rr (by rfl) hsz hon
          have hbk := hbk0.row rr
          have hce := hbk.cell k
          rw [hgt'] at hce
          have hb4 : Below w3.heap.size w3 ((wr.alloc (.cells zs48 104)).setRow wr.heap.size rr) := below_setRow (HT.out.1.alloc HT.out.1.size _) HT.out.1.size _
          have hown4 : ((wr.alloc (.cells zs48 104)).setRow wr.heap.size rr).ownsRow w3.heap.size 5 1 (.slice A (2 * t) c) (2 * t) (bytesV (colT (colPre wide k t))) := own_kept HT.out.2 ((Below.refl _ _).alloc (Nat.le_refl _) _ |>.trans (below_setRow (Below.refl _ _) (Nat.le_refl _) _))
          obtain ⟨w4, hw4⟩ : ∃ w4, w4 = (wr.alloc (.cells zs48 104)).setRow wr.heap.size rr := ⟨_, rfl⟩
          rw [← hw4] at hst hce hb4 hown4 hbk
          obtain ⟨g4, hg4⟩ : ∃ g4, g4 = wr.heap.size := ⟨_, rfl⟩
          have H4 := Lib.hid (And.intro hb4 (And.intro hown4 hbk))
          clear hx hw4 hb4 hown4 hbk hbk0 hrg hrg2 hrr hgt hgt' hsz hon
          have HG4 := Lib.hid hg4
          clear hg4
          go_upto_region 11 with (fail)
          rw [← HG4.out] at hce H4 ⊢
          clear hst hld hz48
          unfold Nar at hnx
          have hx1 := hnx.1
          have hx2 := hnx.2
          clear hnx
          have e1 : IntKind.i64.wrap (x + 1) = x + 1 := IntWalk.i64_in _ (by omega)
          have e2 : IntKind.u8.wrap ((x + 1) / 256) = ((hiB x).toNat : Int) := wrap_hi hx1 hx2
          have e3 : IntKind.u8.wrap (x + 1) = ((loB x).toNat : Int) := wrap_lo hx1 hx2
          have y3 : ∀ v ∈ [Value.int .u8 ((hiB x).toNat : Int), .int .u8 ((loB x).toNat : Int)], v.oneCell' = true := by intro v hv; simp at hv; rcases hv with rfl | rfl <;> rfl
          have y1 : 2 * t + 2 ≤ maxLen := by unfold maxLen; omega
          have y2 : (2 * t + 2) * 1 ≤ 140737488355328 := by omega
          have hb9 := H4.out.1.size
          go_region_law (first
            | (refine step_append_lies _ rfl (.tmp 35) (.tmp 47) 75 rfl w3.heap.size 5 i5 (.int .u8 0) 1 1 Try.underlying75 hi5 hz5 hsz5 hbt5 rfl (by decide) (.slice A (2 * t) c) (2 * t) (bytesV (colT (colPre wide k t))) (by rfl) ?_ ⟨_, 0, none⟩ 2 2 [.int .u8 ((hiB x).toNat : Int), .int .u8 ((loB x).toNat : Int)] (by rfl) rfl (World.news_of_block (cs := #[.int .u8 ((hiB x).toNat : Int), .int .u8 ((loB x).toNat : Int)]) (t := 5) (fr := (0, 0)) ?_) y3 (by decide) y1 y2 ?_ _ rfl ?_
               · exact own_kept H4.out.2.1 (((Below.refl _ _).alloc (Nat.le_refl _) _).drew)
               · exact heap_alloc_new _ _
               · show w3.heap.size ≤ (w4.alloc _).heap.size
                 simp; omega
               intro g5 c5' w5 hown5 hg5 hat5 hlt5))
          all_goals
            have H5 := Lib.hid (And.intro hown5 hg5)
            clear hown5 hg5 hat5 hlt5
            go_wp2_with fail
            go_roundw
            case rel => exact ⟨t + 1, _, c5', by omega, rfl, by go_num, (H4.out.1.trans ((((Below.refl w4.heap.size w4).alloc (Nat.le_refl _) _).drew).mono H4.out.1.size)).grown H5.out.2 (by show w3.heap.size ≤ (w4.alloc _).heap.size; simp; omega) (fun j hj => (H4.out.2.1.lt j hj).1), by
              rw [colPre_succ (by rw [HC.out.1]; exact htn), ← HX.out, colT_snoc, bytesV_app]
              exact H5.out.1⟩
            case measure => simp [intOf]; omega
        · obtain rfl : t = n := by omega
          have hw5 := HW.out.go HT.out.1
          obtain ⟨T, hTd⟩ : ∃ T, T = colT (colOf wide k) := ⟨_, rfl⟩
          have hTl : T.length = 2 * t := by rw [hTd, colT_len, colOf, List.length_map, HC.out.1]
          have hown := HT.out.2
          rw [colPre_all HC.out.1, ← hTd] at hown
          obtain ⟨g5, cap5, hv5, hB5, hbl5⟩ := hown.form (by omega)
          simp only [Value.slice.injEq] at hv5
          obtain ⟨rfl, _, rfl⟩ := hv5
          have hcv := run_convert_bytes_back (P := Try.prog) wr 75 9 5 ⟨g5, 0, none⟩ c T Try.underlying75 Try.underlying5 Try.underlying9 (by
            intro j hj
            rw [add_plain']
            have := hown.cellAt (g := g5) j (by omega)
            rw [Nat.zero_add, this, bytesV, List.getElem?_map, List.getElem?_eq_getElem hj]; rfl)
          rw [hTl] at hcv
          obtain ⟨s, hs⟩ : ∃ s : ByteArray, s = ⟨T.toArray⟩ := ⟨_, rfl⟩
          rw [← hs] at hcv
          have hTm : T.length ≤ 9223372036854775807 := by omega
          obtain ⟨is, his⟩ : ∃ is, is = decide (T ∈ texts wide (narrowK wide k).2) := ⟨_, rfl⟩
          obtain ⟨iv, hiv⟩ : ∃ iv, iv = placeI (texts wide (narrowK wide k).2) T := ⟨_, rfl⟩
          have hkl := narrowK_len wide k
          obtain ⟨ll, hll⟩ : ∃ ll, ll = (narrowK wide k).2.length := ⟨_, rfl⟩
          have HS := Lib.hid (And.intro hs (And.intro hTd (And.intro hll hkl)))
          have hcb := hw5.box.cell k
          rw [dCells_get _ _ _ hlt] at hcb
          have hfb := hw5.box.frozen k
          have hown9 := hw5.own
          have H5 := Lib.hid hw5
          rw [← hll] at hown9 ⊢
          have hll2 : ll ≤ 256 := by have := HS.out.2.2.2.2; rw [← HS.out.2.2.1] at this; omega
          clear hw5 hTd hown hs hB5 hbl5 hll hkl
          cases is with
          | true =>
            have hmem : T ∈ texts wide (narrowK wide k).2 := of_decide_eq_true his.symm
            have hpl := plc_lt hmem
            rw [texts_len, ← HS.out.2.2.1] at hpl
            have hivp : iv = (plc (texts wide (narrowK wide k).2) T : Nat) := by rw [hiv]; unfold placeI; rw [if_pos hmem]
            obtain ⟨pc, hpc⟩ : ∃ pc, pc = plc (texts wide (narrowK wide k).2) T := ⟨_, rfl⟩
            rw [← hpc] at hivp hpl
            have e2 : IntKind.u8.wrap (pc : Int) = (pc : Int) := IntWalk.u8_in _ (by omega)
            have hno := nar_old HC.out.2.1 (k := k) (by rw [← HS.out.2.1]; exact hmem)
            rw [← HS.out.2.1, ← hpc] at hno
            have HP := Lib.hid (And.intro hmem (And.intro his.symm (And.intro (hivp.symm.trans hiv).symm hno)))
            clear hmem his hiv hpc hno
            subst hivp
            go_wp2_with (first | (at_lookup; refine wpList_lookup_text _ rfl _ _ rfl gm m D _ rfl H5.out.nm H5.out.idx T hTm s HS.out.1 rfl _ true HP.out.2.2.1 HP.out.2.1 ?_))
            go_roundw
            case rel =>
              have hput := H5.out.put (j := k) (v := .int .u8 (pc : Int)) (dCells_set hlt HS.out.2.2.2.1)
              have hno := HP.out.2.2.2
              refine ⟨k + 1, m, D, by omega, by go_num, by omega, ?_⟩
              rw [hno, HS.out.2.2.1]
              exact hput
            case measure => simp [intOf]; omega
          | false =>
            have hmem : T ∉ texts wide (narrowK wide k).2 := of_decide_eq_false his.symm
            have hno := nar_new HC.out.2.1 (k := k) (by rw [← HS.out.2.1]; exact hmem)
            rw [← HS.out.2.2.1] at hno
            have hsz := H5.out.size
            rw [texts_len, ← HS.out.2.2.1] at hsz
            have HP := Lib.hid (And.intro hmem (And.intro his.symm (And.intro hiv.symm hno)))
            have e2 : IntKind.u8.wrap (ll : Int) = (ll : Int) := IntWalk.u8_in _ (by have h9 := HS.out.2.2.2.2; rw [← HS.out.2.2.1] at h9; omega)
            clear hmem his hiv hno
            have y1 : (ll + 1) * 8 ≤ 140737488355328 := by omega
            have y2 : ll + 1 ≤ maxLen := by unfold maxLen; omega
            have y3 : ∀ v ∈ [Value.int .i64 (k : Int)], v.oneCell' = true := by intro v hv9; simp at hv9; rw [hv9]; rfl
            go_wp2_with (first
              | (at_lookup; refine wpList_lookup_text _ rfl _ _ rfl gm m D _ rfl H5.out.nm H5.out.idx T hTm s HS.out.1 rfl _ false HP.out.2.2.1 HP.out.2.1 ?_)
              | (at_len; refine wpList_len_own _ rfl _ 78 rfl 9 3 Try.underlying78 _ gm m D rfl H5.out.nm ?_)
              | (at_mapUpdate; refine wpList_mapUpdate_own _ rfl _ _ _ 78 rfl 9 3 (string_keyed Try.underlying9) Try.underlying78 (plainElem (H := Unit) Try.prog 3) gm m D rfl H5.out.nm (by unfold maxLen; omega) _ _ _ rfl rfl (by rw [HS.out.1]; exact keyOf_text T hTm) _ [] (plainElem_int Try.underlying3 (i64_sm (a := (ll : Int)) (by omega) (by omega))) ?_; intro w6 hown6 hgrow6; have HW6 := Lib.hid (H5.out.name (tx' := texts wide (narrowK wide k).2 ++ [T]) hgrow6 hown6 (by have h9 := idx_snoc H5.out.idx T hTm HP.out.1; rw [texts_len, ← HS.out.2.2.1] at h9; exact h9) (size_snoc H5.out.idx (H5.out.nm.tidy (string_keyed Try.underlying9)) H5.out.size T hTm HP.out.1 _)); have hown7 := (HW6.out.alloc (.cells #[.int .i64 (k : Int)] 3)).own; rw [← HS.out.2.2.1] at hown7; have y4 := Nat.le_trans (Nat.le_of_lt HW6.out.box.lt) (Below.alloc (Below.refl _ w6) (Nat.le_refl _) (.cells #[.int .i64 (k : Int)] 3)).size)
              | (at_builtin; refine wpList_append_lies _ rfl (.tmp 65) (.tmp 67) 36 rfl (w.heap.size + 1) 3 i3 (.int .i64 0) 1 8 Try.underlying36 hi3 hz3 hsz3 hbt3 rfl (by decide) (.slice A5 ll c5) ll (natsV (narrowK wide k).2) rfl hown7 ⟨_, 0, none⟩ 1 1 [.int .i64 (k : Int)] rfl rfl (World.news_of_block (heap_alloc_new _ _)) y3 (by decide) y2 y1 y4 _ rfl ?_; intro g8 c8 w8 hown8 hg8 hat8 hlt8; have HW8 := Lib.hid ((HW6.out.alloc (.cells #[.int .i64 (k : Int)] 3)).push (W' := w8) (v := .slice (some ⟨g8, 0, none⟩) (ll + 1) c8) (x := k) (by rw [← HS.out.2.2.1]; exact hown8) (by rw [← HS.out.2.2.1]; exact hg8)); have hcb8 := HW8.out.box.cell k; rw [dCells_get _ _ _ hlt] at hcb8; have hfb8 := HW8.out.box.frozen k))
            go_roundw
            case rel =>
              have hput := HW8.out.put (j := k) (v := .int .u8 (ll : Int)) (dCells_set hlt HS.out.2.2.2.1)
              have hno := HP.out.2.2.2
              refine ⟨k + 1, m + 1, D.put (textK.lit T) (.lit (.int .i64 (ll : Int))), by omega, by go_num, by omega, ?_⟩
              rw [hno, texts_snoc, ← HS.out.2.1]
              exact hput
            case measure => simp [intOf]; omega
    · have hk256 : k = 256 := by omega
      obtain ⟨cl, hcl⟩ : ∃ cl, cl = (narrowK wide k).1 := ⟨_, rfl⟩
      obtain ⟨ls, hls⟩ : ∃ ls, ls = (narrowK wide k).2 := ⟨_, rfl⟩
      have hw := HW.out
      rw [← hcl, ← hls] at hw
      rw [← hls]
      have hnk := narrowK_len wide k
      have hnl := nar_lt wide k
      rw [← hls, ← hcl] at hnk hnl
      rw [hk256] at hcl hls
      obtain ⟨ll, hll⟩ : ∃ ll, ll = ls.length := ⟨_, rfl⟩
      rw [← hll]
      have HN := Lib.hid (And.intro hcl (And.intro hls (And.intro hll (And.intro hnk hnl))))
      have HV := Lib.hid hw
      have hll2 : ll ≤ 256 := by omega
      clear hk256 hcl hls hll hnk hnl hw HW
      go_wp2_with fail
      go_loopw [77] (fun i wr => ∃ (t : Nat) (nx ac : Value) (RA : Nat → Option Addr) (rc : Nat → Nat), t ≤ n ∧ i = .int .i64 t ∧ NarW w wr gm m D (texts wide ls) (.slice A5 ls.length c5) ls cl nx ac ∧ NarX w wr t t nx ac RA rc ((wide.take t).map (fun r => ls.map (fun b => r.getD b 0))) ((all.take t).map (fun i => acc.getD i false))) (fun i _ => n - (intOf i).toNat)
      case atStart => exact ⟨0, _, _, fun _ => none, fun _ => 0, by omega, rfl, HV.out, rfl, rfl, World.ownsRow_nil _ _ _ _, fun i hi => by omega, World.ownsRow_nil _ _ _ _⟩
      case round =>
        obtain ⟨t, nx, ac, RA, rc, ht, rfl, hw, hx⟩ := hrel
        have HW := Lib.hid (And.intro hw hx)
        clear hw hx HV
        by_cases htn : t < n
        · obtain ⟨b0, o0, e9, hb0, hrg⟩ := wide_range H0.out htn
          subst e9
          have hrg2 : wr.rangeAt b0 (o0 + t * 256) (rowV (wide.getD t [])) := fun j v hv => (HW.out.1.bel.cell (p := ⟨b0, o0 + t * 256 + j, none⟩) hb0).trans (hrg j v hv)
          have hld := loadB_run 104 hrg2 (by simp) (by rw [rowV_len]; rfl)
          have hz48 := zeroV48
          have hbk0 := blk_alloc wr 104 zs48
          have hsz : (rowV (wide.getD t [])).toArray.size = 256 := by rw [List.size_toArray, rowV_len]
          have hon := rowV_one (wide.getD t [])
          have HGT := Lib.hid (fun b hb => rowV_get (wide.getD t []) (b := b) hb)
          obtain ⟨r, hr⟩ : ∃ r, r = wide.getD t [] := ⟨_, rfl⟩
          rw [← hr] at HGT hld hsz hon
          have HRR := Lib.hid hr
          obtain ⟨rr, hrr⟩ : ∃ rr, rr = (rowV r).toArray := ⟨_, rfl⟩
          rw [← hrr] at hld hsz hon
          have hst := storeB_run 104 hbk0 (by simp) rr (by rfl) hsz hon
          have hbk := hbk0.row rr
          have hb4 : Below wr.heap.size wr ((wr.alloc (.cells zs48 104)).setRow wr.heap.size rr) := below_setRow ((Below.refl _ _).alloc (Nat.le_refl _) _) (Nat.le_refl _) _
          obtain ⟨w4, hw4⟩ : ∃ w4, w4 = (wr.alloc (.cells zs48 104)).setRow wr.heap.size rr := ⟨_, rfl⟩
          rw [← hw4] at hst hb4 hbk
          obtain ⟨g4, hg4⟩ : ∃ g4, g4 = wr.heap.size := ⟨_, rfl⟩
          have hw5 := HW.out.1.go hb4
          have hx5 := HW.out.2.go hb4
          rw [hrr, List.toList_toArray] at hbk
          rw [← hg4] at hbk
          have HG4 := Lib.hid hg4
          have H4 := Lib.hid (And.intro hbk (And.intro hw5 hx5))
          clear hr hrr hw4 hb4 hbk hbk0 hrg hrg2 hsz hon hg4 hw5 hx5
          go_wp2_with fail
          rw [← HG4.out]
          clear hst hld hz48
          go_loopw [18, 84] (fun v i wx => ∃ (q : Nat) (A : Option Addr) (c : Nat), q ≤ ll ∧ v = .slice A q c ∧ i = .int .i64 q ∧ Below w4.heap.size w4 wx ∧ wx.ownsRow w4.heap.size 3 1 (.slice A q c) q (numsV .i64 ((ls.take q).map (fun b => r.getD b 0)))) (fun _ i _ => ll - (intOf i).toNat)
          case atStart => exact ⟨0, _, _, by omega, rfl, rfl, Below.refl _ _, World.ownsRow_nil _ _ _ _⟩
          case round =>
            obtain ⟨q, A, c, hq, rfl, rfl, hb, hown⟩ := hrel
            have HT := Lib.hid (And.intro hb hown)
            clear hb hown
            by_cases hql : q < ll
            · have hls1 := (H4.out.2.1.go HT.out.1).own
              rw [← HN.out.2.2.1] at hls1
              obtain ⟨b9, o9, e9, _, hc9⟩ := (Arr.of_own hls1).one hql
              subst e9
              have hbl : ls.getD q 0 < 256 := by
                have h9 := HN.out.2.2.2.2.2 (ls.getD q 0) (by
                  rw [List.getD_eq_getElem?_getD, List.getElem?_eq_getElem (by rw [← HN.out.2.2.1]; exact hql)]; exact List.getElem_mem _)
                have := HN.out.2.2.2.1.1
                omega
              have e7 : (natsV ls).getD q undef = .int .i64 ((ls.getD q 0 : Nat) : Int) := by
                simp [natsV, show q < ls.length by rw [← HN.out.2.2.1]; exact hql]
              rw [e7] at hc9
              have hgr := (H4.out.1.below HT.out.1 H4.out.1.lt).cell (ls.getD q 0)
              rw [HGT.out _ hbl] at hgr
              have htk : (ls.take (q + 1)).map (fun b => r.getD b 0) = (ls.take q).map (fun b => r.getD b 0) ++ [r.getD (ls.getD q 0) 0] := by
                rw [List.take_succ_eq_append_getElem (by rw [← HN.out.2.2.1]; exact hql), List.map_append]
                simp [show q < ls.length by rw [← HN.out.2.2.1]; exact hql]
              obtain ⟨bb, hbb⟩ : ∃ bb, bb = ls.getD q 0 := ⟨_, rfl⟩
              rw [← hbb] at hc9 hgr hbl htk
              obtain ⟨y, hy⟩ : ∃ y, y = r.getD bb 0 := ⟨_, rfl⟩
              rw [← hy] at hgr htk
              have HTK := Lib.hid htk
              have y1 : (q + 1) * 8 ≤ 140737488355328 := by omega
              have y2 : q + 1 ≤ maxLen := by unfold maxLen; omega
              have y3 : ∀ v ∈ [Value.int .i64 y], v.oneCell' = true := by intro v hv9; simp at hv9; rw [hv9]; rfl
              have hown3 := own_kept HT.out.2 ((Below.refl _ _).alloc (Nat.le_refl _) (.cells #[.int .i64 y] 3))
              have y4 : w4.heap.size ≤ (wr.alloc (.cells #[.int .i64 y] 3)).heap.size := (HT.out.1.alloc HT.out.1.size _).size
              clear htk hbb hy e7 hls1
              go_wp2_with (first
                | (at_builtin; refine wpList_append_lies _ rfl (.tmp 88) (.tmp 92) 36 rfl w4.heap.size 3 i3 (.int .i64 0) 1 8 Try.underlying36 hi3 hz3 hsz3 hbt3 rfl (by decide) (.slice A q c) q (numsV .i64 ((ls.take q).map (fun b => r.getD b 0))) rfl hown3 ⟨_, 0, none⟩ 1 1 [.int .i64 y] rfl rfl (World.news_of_block (heap_alloc_new _ _)) y3 (by decide) y2 y1 y4 _ rfl ?_; intro g8 c8 w8 hown8 hg8 hat8 hlt8))
              have H8 := Lib.hid (And.intro hown8 hg8)
              clear hown8 hg8 hat8 hlt8
              go_roundw
              case rel => exact ⟨q + 1, _, c8, by omega, rfl, by go_num, (HT.out.1.alloc HT.out.1.size _).grown H8.out.2 y4 (fun j hj => (HT.out.2.lt j hj).1), by
                rw [HTK.out, numsV_snoc]
                exact H8.out.1⟩
              case measure => simp [intOf]; omega
            · obtain rfl : q = ll := by omega
              obtain ⟨Ax, cx, rfl⟩ := own_sl HW.out.2.on
              obtain ⟨Ay, cy, rfl⟩ := own_sl HW.out.2.oa
              have hw6 := H4.out.2.1.go HT.out.1
              have hx6 := H4.out.2.2.go HT.out.1
              have hlt6 : w.heap.size + 1 ≤ w4.heap.size := Nat.le_of_lt H4.out.2.1.box.lt
              have hrow := own_less HT.out.2 hlt6
              have hlq : ls.take q = ls := List.take_of_length_le (by rw [← HN.out.2.2.1]; exact Nat.le_refl _)
              rw [hlq] at hrow
              obtain ⟨l, hl⟩ : ∃ l, l = ls.map (fun b => r.getD b 0) := ⟨_, rfl⟩
              have hll9 : l.length = q := by rw [hl, List.length_map, ← HN.out.2.2.1]
              rw [← hl] at hrow
              have hxa := hx6.go ((Below.refl _ _).alloc (Nat.le_refl _) (.cells #[.slice A q c] 36))
              have hwa := hw6.alloc (.cells #[.slice A q c] 36)
              have hrowa := own_kept hrow ((Below.refl _ _).alloc (Nat.le_refl _) (.cells #[.slice A q c] 36))
              have hrowa : (wr.alloc (.cells #[.slice A q c] 36)).ownsRow (w.heap.size + 1) 3 1 (.slice A l.length c) l.length (numsV .i64 l) := by rw [hll9]; exact hrowa
              have hona := hxa.on
              have hcb := hw6.box.cell 256
              rw [dCells_256] at hcb
              have hcba := hwa.box.cell 256
              rw [dCells_256] at hcba
              obtain ⟨xs, hxs⟩ : ∃ xs, xs = (List.range t).map (fun i => Value.slice (RA i) (((wide.take t).map (fun r => ls.map (fun b => r.getD b 0))).getD i []).length (rc i)) := ⟨_, rfl⟩
              rw [← hxs] at hona
              have HA := Lib.hid (And.intro hxa (And.intro hwa (And.intro hrowa (And.intro hxs (And.intro hl hll9)))))
              have y1 : (t + 1) * 24 ≤ 140737488355328 := by omega
              have y2 : t + 1 ≤ maxLen := by unfold maxLen; omega
              have y3 : ∀ v ∈ [Value.slice A q c], v.oneCell' = true := by intro v hv9; simp at hv9; rw [hv9]; rfl
              have y4 := Nat.le_of_lt hwa.box.lt
              obtain ⟨i34, hi34, hz34, hsz34, hbt34⟩ := info_parts info34
              obtain ⟨i4, hi4, hz4, hsz4, hbt4⟩ := info_parts info4
              clear hxa hwa hrowa hxs hl hll9 hrow hlq hw6 hx6
              go_wp2_with (first
                | (at_builtin; refine wpList_append_lies _ rfl (.tmp 96) (.tmp 98) 27 rfl (w.heap.size + 1) 36 i34 (.slice none 0 0) 1 24 Try.underlying27 hi34 hz34 hsz34 hbt34 rfl (by decide) (.slice Ax t cx) t xs rfl hona ⟨_, 0, none⟩ 1 1 [.slice A q c] rfl rfl (World.news_of_block (heap_alloc_new _ _)) y3 (by decide) y2 y1 y4 _ rfl ?_; intro g8 c8 w8 hown8 hg8 hat8 hlt8; have HW8 := Lib.hid (HA.out.2.1.grew HA.out.1.on (by decide) hg8); have hc8 := HW8.out.box.cell 256; rw [dCells_256] at hc8; have hf8 := HW8.out.box.frozen 256))
              have hx8 := HA.out.1.addRow (W' := w8) (v := .slice (some ⟨g8, 0, none⟩) (t + 1) c8) (A := A) (c := c) (l := l) HA.out.2.2.1 (by rw [← HA.out.2.2.2.1, HA.out.2.2.2.2.2]; exact hown8) hg8
              have hx9 := hx8.box HW8.out.box 256 (.slice (some ⟨g8, 0, none⟩) (t + 1) c8)
              have hw9 := HW8.out.put (j := 256) (v := .slice (some ⟨g8, 0, none⟩) (t + 1) c8) (dCells_nx _ _ _ _)
              have H9 := Lib.hid (And.intro hw9 hx9)
              clear hx8 hx9 hw9 hown8 hg8 hat8 hlt8 hc8 hf8 hcb hcba hona
              generalize w8.setCell ⟨w.heap.size + 1, 256, none⟩ (.slice (some ⟨g8, 0, none⟩) (t + 1) c8) = w9 at H9 ⊢
              have hc257 := H9.out.1.box.cell 257
              rw [dCells_257] at hc257
              obtain ⟨b1, o1, e1, hbb1, hcc1⟩ := H1.out.one htn
              subst e1
              unfold NatC at hcc1
              have hcc1 := (H9.out.1.bel.cell (p := ⟨b1, o1 + t, none⟩) hbb1).trans hcc1
              have hav := HC.out.2.2.2 t htn
              obtain ⟨av, hav9⟩ : ∃ av, av = all.getD t 0 := ⟨_, rfl⟩
              rw [← hav9] at hcc1 hav
              obtain ⟨b2, o2, e2, hbb2, hcc2⟩ := H2.out.one hav
              subst e2
              unfold BoolC at hcc2
              have hcc2 := (H9.out.1.bel.cell (p := ⟨b2, o2 + av, none⟩) hbb2).trans hcc2
              obtain ⟨bx, hbx⟩ : ∃ bx, bx = acc.getD av false := ⟨_, rfl⟩
              rw [← hbx] at hcc2
              have HQ := Lib.hid (And.intro hav9 hbx)
              obtain ⟨ms, hms⟩ : ∃ ms, ms = ((all.take t).map (fun i => acc.getD i false)).map Value.bool := ⟨_, rfl⟩
              have HMS := Lib.hid hms
              have z1 : (t + 1) * 1 ≤ 140737488355328 := by omega
              have z3 : ∀ v ∈ [Value.bool bx], v.oneCell' = true := by intro v hv9; simp at hv9; rw [hv9]; rfl
              have hd1 : w9.drew.cell? ⟨w.heap.size + 1, 257, none⟩ = some (.slice Ay t cy) := hc257
              have hd2 : w9.drew.cell? ⟨b1, o1 + t, none⟩ = some (.int .i64 (av : Int)) := hcc1
              have hd3 : w9.drew.cell? ⟨b2, o2 + av, none⟩ = some (.bool bx) := hcc2
              have hd4 := cell_al hc257 (.cells #[.bool bx] 4)
              clear hav9 hbx hms
              go_region_law (first
                | (refine step_append_lies _ rfl (.tmp 102) (.tmp 110) 28 rfl (w.heap.size + 1) 4 i4 (.bool false) 1 1 Try.underlying28 hi4 hz4 hsz4 hbt4 rfl (by decide) (.slice Ay t cy) t ms (by rfl) ?_ ⟨_, 0, none⟩ 1 1 [.bool bx] (by rfl) rfl (World.news_of_block (cs := #[.bool bx]) (t := 4) (fr := (0, 0)) ?_) z3 (by decide) y2 z1 ?_ _ rfl ?_
                   · rw [HMS.out]; exact own_kept H9.out.2.oa (((Below.refl _ _).alloc (Nat.le_refl _) _).drew)
                   · exact heap_alloc_new _ _
                   · exact Nat.le_of_lt ((H9.out.1.alloc _).box.lt)
                   intro g7 c7 w7 hown7 hg7 hat7 hlt7
                   have HW7 := Lib.hid (((H9.out.1.alloc (.cells #[.bool bx] 4)).go ((Below.refl _ _).drew)).grew (W' := w7) ((H9.out.2.go ((Below.refl _ _).alloc (Nat.le_refl _) (.cells #[.bool bx] 4))).go ((Below.refl _ _).drew)).oa (by decide) hg7)
                   have hc7 := HW7.out.box.cell 257
                   rw [dCells_257] at hc7
                   have hf7 := HW7.out.box.frozen 257))
              all_goals
                have H7 := Lib.hid (And.intro hown7 hg7)
                clear hown7 hg7 hat7 hlt7 hd1 hd2 hd3 hd4 hc257 hcc1 hcc2
                go_wp2_with fail
                go_roundw
                case rel =>
                  have hxd := (H9.out.2.go ((Below.refl _ _).alloc (Nat.le_refl _) (.cells #[.bool bx] 4))).go ((Below.refl _ _).drew)
                  have hx7 := hxd.addMark (W' := w7) (v := .slice (some ⟨g7, 0, none⟩) (t + 1) c7) (x := bx) (by rw [← HMS.out]; exact H7.out.1) H7.out.2
                  have hxf := hx7.box HW7.out.box 257 (.slice (some ⟨g7, 0, none⟩) (t + 1) c7)
                  have hwf := HW7.out.put (j := 257) (v := .slice (some ⟨g7, 0, none⟩) (t + 1) c7) (dCells_ac _ _ _ _)
                  refine ⟨t + 1, _, _, updA RA t A, updA rc t c, by omega, by go_num, hwf, ?_⟩
                  have t1 : (wide.take (t + 1)).map (fun r => ls.map (fun b => r.getD b 0)) = (wide.take t).map (fun r => ls.map (fun b => r.getD b 0)) ++ [l] := by
                    rw [List.take_succ_eq_append_getElem (by rw [HC.out.1]; exact htn), List.map_append, HA.out.2.2.2.2.1, HRR.out]
                    simp [show t < wide.length by rw [HC.out.1]; exact htn]
                  have t2 : (all.take (t + 1)).map (fun i => acc.getD i false) = (all.take t).map (fun i => acc.getD i false) ++ [bx] := by
                    rw [List.take_succ_eq_append_getElem (by rw [HC.out.2.2.1]; exact htn), List.map_append, HQ.out.2, HQ.out.1]
                    simp [show t < all.length by rw [HC.out.2.2.1]; exact htn]
                  rw [t1, t2]
                  exact hxf
                case measure => simp [intOf]; omega
        · have htn9 : t = n := by omega
          obtain ⟨Ax, cx, rfl⟩ := own_sl HW.out.2.on
          obtain ⟨Ay, cy, rfl⟩ := own_sl HW.out.2.oa
          have hone := dCells_one cl Ax Ay t t cx cy
          have hld := loadB_run 30 HW.out.1.box.range (.inl rfl) (by rw [dCells_len]; rfl)
          have hst := storeB_run 30 HW.out.1.r6 (.inl rfl) (dCells cl (.slice Ax t cx) (.slice Ay t cy)).toArray (by rw [zs26_cells, dCells_len]; rfl) (by rw [List.size_toArray, dCells_len]; rfl) hone
          have hblk := HW.out.1.r6.row (dCells cl (.slice Ax t cx) (.slice Ay t cy)).toArray
          have hbel := below_setRow (g := w.heap.size) HW.out.1.bel (Nat.le_refl _) (dCells cl (.slice Ax t cx) (.slice Ay t cy)).toArray
          have hx9 := HW.out.2.ch (but_setRow wr w.heap.size (dCells cl (.slice Ax t cx) (.slice Ay t cy)).toArray) (fun j hj e => by have := (HW.out.2.on.lt j hj).1; omega) (fun j hj e => by have := (HW.out.2.oa.lt j hj).1; omega) (fun i hi j hj e => by have := ((HW.out.2.row i hi).lt j hj).1; omega)
          obtain ⟨ds, hds⟩ : ∃ ds, ds = (dCells cl (.slice Ax t cx) (.slice Ay t cy)).toArray := ⟨_, rfl⟩
          rw [← hds] at hld hst hblk hbel hx9
          have hsz : ds.size = 258 := by rw [hds, List.size_toArray, dCells_len]
          have HF := Lib.hid (And.intro hblk (And.intro hbel (And.intro hx9 (And.intro hds hsz))))
          clear hblk hbel hx9 hds hsz hone
          go_wp2_with fail
          (try simp only [Exit.inBlock, Exit.then])
          refine bodyPost_ret (results_cell_row rfl _ _ w.heap.size 30 ds.toList.toArray (0, 0) _ rfl HF.out.1 Try.underlying30 rfl (by rw [List.size_toArray, Array.length_toList, HF.out.2.2.2.2]; exact info26)) rfl ?_
          refine ⟨ds, Ax, cx, Ay, cy, RA, rc, by simp, fun w'' hb'' => ?_, HF.out.2.1⟩
          have hwt : wide.take t = wide := List.take_of_length_le (by rw [HC.out.1]; omega)
          have hat : all.take t = all := List.take_of_length_le (by rw [HC.out.2.2.1]; omega)
          have hx := HF.out.2.2.1
          have hx := hx.ch hb'' (fun j hj e => by have := (hx.on.lt j hj).1; omega) (fun j hj e => by have := (hx.oa.lt j hj).1; omega) (fun i hi j hj e => by have := ((hx.row i hi).lt j hj).1; omega)
          rw [hwt, hat] at hx
          have hd := narX_dfa (cl := cl) hx (fun b hb => by
            rw [List.getD_eq_getElem?_getD]
            cases e : cl[b]? with
            | none => simp
            | some c =>
              have hm := List.mem_of_getElem? e
              have := HN.out.2.2.2.2.1 c hm
              simp; omega) (by omega) (fun i hi => by
            rw [List.getD_eq_getElem?_getD, List.getElem?_map]
            cases e : wide[i]? with
            | none => simp
            | some r => simp; rw [← HN.out.2.2.1]; exact hll2)
          rw [← HF.out.2.2.2.1] at hd
          rw [← htn9]
          have e1 : narD wide all acc = ⟨fun b => cl.getD b 0, wide.map (fun r => ls.map (fun b => r.getD b 0)), all.map (fun i => acc.getD i false)⟩ := by
            unfold narD
            rw [← HN.out.1, ← HN.out.2.1]
          rw [e1]
          exact hd
end Go.Proofs.Ytfjhcoeehjephaa.M9
