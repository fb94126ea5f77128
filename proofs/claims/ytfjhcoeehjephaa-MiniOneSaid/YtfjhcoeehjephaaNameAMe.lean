/- dfa.name: a set of states as a text. -/
import Derived.Test.YtfjhcoeehjephaaNfaMe
import Derived.Test.YtfjhcoeehjephaaFreeMe
import Derived.Laws.IdiomStrings
import Derived.WalkArith
namespace Go.Proofs.Ytfjhcoeehjephaa
open Go.RowKit
attribute [local go_sem ↓] Go.wp_at_zero Go.wp_at_succ

def twoB (i : Nat) : List UInt8 := [UInt8.ofNat (i / 256), UInt8.ofNat i]
def nameL (l : List Nat) : List UInt8 := l.flatMap twoB
def nameOf (l : List Nat) : ByteArray := ⟨(nameL l).toArray⟩
theorem twoB_inj {i j : Nat} (hi : i < 65536) (hj : j < 65536) (h : twoB i = twoB j) : i = j := by
  unfold twoB at h
  simp only [List.cons.injEq, and_true] at h
  have h1 := congrArg UInt8.toNat h.1
  have h2 := congrArg UInt8.toNat h.2
  rw [UInt8.toNat_ofNat', UInt8.toNat_ofNat'] at h1 h2
  omega
theorem nameL_inj : ∀ {l m : List Nat}, (∀ q ∈ l, q < 65536) → (∀ q ∈ m, q < 65536) → nameL l = nameL m → l = m
  | [], [], _, _, _ => rfl
  | [], b :: m, _, _, h => by simp [nameL, twoB] at h
  | a :: l, [], _, _, h => by simp [nameL, twoB] at h
  | a :: l, b :: m, hl, hm, h => by
    have h1 : twoB a ++ nameL l = twoB b ++ nameL m := h
    have h2 : twoB a = twoB b := by
      have := congrArg (List.take 2) h1
      simpa [twoB] using this
    have h3 : nameL l = nameL m := by
      rw [h2] at h1
      exact List.append_cancel_left h1
    rw [twoB_inj (hl a (by simp)) (hm b (by simp)) h2, nameL_inj (fun q hq => hl q (by simp [hq])) (fun q hq => hm q (by simp [hq])) h3]
theorem nameOf_inj {l m : List Nat} (hl : ∀ q ∈ l, q < 65536) (hm : ∀ q ∈ m, q < 65536) (h : nameOf l = nameOf m) : l = m := by
  refine nameL_inj hl hm ?_
  unfold nameOf at h
  have := congrArg (fun s => s.data.toList) h
  simpa using this
/-- a list of states, as memory has it -/
def natL (l : List Nat) : List Int := l.map Int.ofNat
theorem natL_len (l : List Nat) : (natL l).length = l.length := by simp [natL]
theorem natL_get {l : List Nat} {k : Nat} (h : k < l.length) : (natL l).getD k 0 = ((l.getD k 0 : Nat) : Int) := by simp [natL, h]
def byV (l : List UInt8) : List Value := l.map (fun b => .int .u8 (b.toNat : Int))
theorem nameL_snoc (l : List Nat) (i : Nat) : nameL (l ++ [i]) = nameL l ++ twoB i := by simp [nameL]
theorem nameL_len (l : List Nat) : (nameL l).length = 2 * l.length := by
  induction l with
  | nil => rfl
  | cons a l ih => show (twoB a ++ nameL l).length = _; rw [List.length_append, ih]; simp [twoB]; omega
theorem byV_two (l : List UInt8) (i : Nat) (hi : i < 65536) : byV (l ++ twoB i) = byV l ++ [.int .u8 ((i : Int) / 256), .int .u8 ((i : Int) % 256)] := by
  unfold byV twoB
  simp only [List.map_append, List.map_cons, List.map_nil, UInt8.toNat_ofNat']
  rw [Nat.mod_eq_of_lt (show i / 256 < 2 ^ 8 by omega)]
  rfl
theorem info5 : (Try.prog.info? 5).map (fun i => (i.zero, i.size, i.bytes)) = some (some (.int .u8 0), 1, 1) := by kernel_rfl

set_option maxRecDepth 100000 in
set_option maxHeartbeats 8000000 in
theorem name_any (A : Option Addr) (n c : Nat) (l : List Nat) (w : World) (hn : n = l.length) (hl : ∀ q ∈ l, q < 2000) (hn2 : n ≤ 2000) (h : Arr w w.heap.size 1 A n (NumC .i64 (natL l))) :
    Calls Try.prog 34 #[.slice A n c] w fun e w' => e = .returned (.string (nameOf l)) ∧ Below w.heap.size w w' := by
  obtain ⟨i5, hi5, hz5, hsz5, hbt5⟩ := info_parts info5
  have hmk : ∀ W, (Instr.makeSlice 75 (.int .i64 0) (.int .i64 (2 * (n : Int)))).run Try.prog W = .ok (.slice (some ⟨W.heap.size, 0, none⟩) 0 (2 * n)) (W.alloc (.cells (Array.replicate (2 * n) (.int .u8 0)) 5)) := fun W => by
    have hm : (i5.bytes : Int) * (2 * (n : Int)) ≤ 128000 := by rw [hbt5]; omega
    rw [run_makeSlice W 75 5 i5 (.int .u8 0) Try.underlying75 hi5 hz5 .i64 .i64 (0 : Int) (2 * (n : Int)) (by omega) (by omega) (by rw [hsz5]; omega) (by omega) (by omega)]
    rw [hsz5, show (Value.int .u8 0).cells = #[.int .u8 0] from rfl, Nat.mul_one, made_one, show (2 * (n : Int)).toNat = 2 * n by omega]
    rfl
  have HA := Lib.hid h
  have HL := Lib.hid hl
  have HN := Lib.hid hn
  clear h hl hn
  go_enter Try.func34, Try.ntmps34
  go_upto_region 3 with (fail)
  clear hmk
  have hb0 : Below w.heap.size w (w.alloc (.cells (Array.replicate (2 * n) (.int .u8 0)) 5)) := (Below.refl _ _).alloc (Nat.le_refl _) _
  have how := World.ownsRow_made w (Array.replicate (2 * n) (.int .u8 0)) (2 * n) (base := w.heap.size) (size := 1) (e := 5) (Nat.le_refl _) (by unfold maxLen; omega) (by simp)
  have HOW := Lib.hid how
  have HB := Lib.hid hb0
  clear how hb0
  go_loopw [3, 12] (fun bv iv wr => ∃ k g c', k ≤ n ∧ iv = .int .i64 (k : Int) ∧ bv = .slice (some ⟨g, 0, none⟩) (2 * k) c' ∧ wr.ownsRow w.heap.size 5 1 (.slice (some ⟨g, 0, none⟩) (2 * k) c') (2 * k) (byV (nameL (l.take k))) ∧ Below w.heap.size w wr) (fun _ iv _ => n - (intOf iv).toNat)
  case atStart => exact ⟨0, _, _, by omega, rfl, rfl, HOW.out, HB.out⟩
  case round =>
    obtain ⟨k, g, c', hk, rfl, rfl, hown, hbl⟩ := hrel
    obtain ⟨w3, rfl⟩ : ∃ w3 : World, w3 = wr := ⟨_, rfl⟩
    have HQ := Lib.hid (And.intro hown hbl)
    by_cases hlt : k < n
    · obtain ⟨b, o, rfl, _, hc⟩ := ((HA.out.below hbl).more hbl.size).one hlt
      have hkl : k < l.length := by have := HN.out; omega
      have hq := HL.out _ (getD_mem (d := 0) hkl)
      unfold NumC at hc
      rw [natL_get hkl] at hc
      have htk := take_next l k 0 hkl
      obtain ⟨q, hqd⟩ : ∃ q, q = l.getD k 0 := ⟨_, rfl⟩
      rw [← hqd] at hc hq htk
      have HTK := Lib.hid htk
      have hszl := hbl.size
      have hbytes := byV_two (nameL (l.take k)) q (by omega)
      have HBY := Lib.hid hbytes
      obtain ⟨k2, hk2⟩ : ∃ k2, k2 = 2 * k := ⟨_, rfl⟩
      have HO2 := Lib.hid (show w3.ownsRow w.heap.size 5 1 (.slice (some ⟨g, 0, none⟩) k2 c') k2 (byV (nameL (l.take k))) by rw [hk2]; exact hown)
      rw [← hk2]
      have hk2b : k2 ≤ 4000 := by omega
      have HK2 := Lib.hid hk2
      have hcn : ∀ j u, ([.int .u8 ((q : Int) / 256), .int .u8 ((q : Int) % 256)] : List Value)[j]? = some u → (w3.alloc (.cells #[.int .u8 ((q : Int) / 256), .int .u8 ((q : Int) % 256)] 5)).cell? ((⟨w3.heap.size, 0, none⟩ : Addr).add j) = some u := World.news_of_block (cs := #[.int .u8 ((q : Int) / 256), .int .u8 ((q : Int) % 256)]) (heap_alloc_new _ _)
      have hone : ∀ u ∈ ([.int .u8 ((q : Int) / 256), .int .u8 ((q : Int) % 256)] : List Value), u.oneCell' = true := by intro u hu; simp at hu; rcases hu with rfl | rfl <;> rfl
      have HCN := Lib.hid hcn
      have HON := Lib.hid hone
      clear hown hbl hqd htk hbytes hk2 hcn hone
      go_wp2_with (at_builtin; (refine wpList_append_lies _ rfl _ _ 75 rfl w.heap.size 5 i5 (.int .u8 0) 1 1 Try.underlying75 hi5 hz5 hsz5 hbt5 rfl (by decide) _ k2 _ rfl (HO2.out.alloc _) ⟨w3.heap.size, 0, none⟩ 2 2 [.int .u8 ((q : Int) / 256), .int .u8 ((q : Int) % 256)] rfl rfl HCN.out HON.out (by omega) (by unfold maxLen; omega) (by omega) (by simp; omega) _ rfl ?_; intro g5 c5 w5 hown5 hgrow5 hat5 _))
      go_roundw
      case rel =>
        refine ⟨k + 1, g5, c5, by omega, by go_num, by rw [HK2.out]; congr 1, ?_, (HQ.out.2.alloc HQ.out.2.size _).grown hgrow5 (by simp; omega) (fun b e => (HO2.out.lt b e).1)⟩
        rw [HTK.out, nameL_snoc, HBY.out]
        have h9 := hown5
        rw [HK2.out] at h9
        exact h9
      case measure => simp [intOf]; omega
    · obtain rfl : k = n := by omega
      have hlen : (nameL l).length = 2 * k := by rw [nameL_len]; have := HN.out; omega
      have hcv : (convert 75 9 (.slice (some ⟨g, 0, none⟩) (2 * k) c')).run Try.prog w3 = .ok (.string (nameOf l)) w3 := by
        have h9 := run_convert_bytes_back (P := Try.prog) w3 75 9 5 ⟨g, 0, none⟩ c' (nameL l) Try.underlying75 Try.underlying5 Try.underlying9 (fun j hj => by
          have h8 := hown.cells (g := g) rfl j (.int .u8 ((nameL l)[j].toNat : Int)) (by
            rw [List.take_of_length_le (by have := HN.out; omega)]
            simp [byV, hj])
          exact h8)
        rw [hlen] at h9
        exact h9
      have HCV := Lib.hid hcv
      clear hown hbl hlen
      go_wp2_with fail
      go_returns
      exact ⟨by first | rfl | simp, HQ.out.2⟩
end Go.Proofs.Ytfjhcoeehjephaa
