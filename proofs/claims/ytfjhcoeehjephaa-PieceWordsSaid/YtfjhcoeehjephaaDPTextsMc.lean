/- piece.Split, refused; piece.Texts; the reference's Split. -/
import Derived.Test.YtfjhcoeehjephaaDPSplitMc
namespace Go.Proofs.Ytfjhcoeehjephaa.D8
open Go.RowKit
attribute [local go_sem ↓] load_box

theorem info9 : (Try.prog.info? 9).map (fun i => (i.zero, i.size, i.bytes)) = some (some (.string ⟨#[]⟩), 1, 16) := by kernel_rfl
def strsV (l : List ByteArray) : List Value := l.map Value.string
theorem strsV_snoc (l : List ByteArray) (t : ByteArray) : strsV (l ++ [t]) = strsV l ++ [.string t] := by simp [strsV]
def StrC (xs : List ByteArray) : Nat → Nat → Value := fun k _ => .string (xs.getD k ⟨#[]⟩)
theorem own_strs {w : World} {base c n : Nat} {e : TypeId} {A : Option Addr} {xs : List ByteArray} (h : w.ownsRow base e 1 (.slice A n c) n (strsV xs)) : Arr w w.heap.size 1 A n (StrC xs) := fun hn => by
  have hl : xs.length = n := by have := h.1; simpa [strsV] using this
  obtain ⟨b, off, rfl, hlt, hc⟩ := (Arr.of_own h) hn
  refine ⟨b, off, rfl, hlt, fun k j hk hj => ?_⟩
  rw [hc k j hk hj]
  simp [strsV, StrC, hl, hk]
theorem own_cap {w : World} {base : Nat} {e : TypeId} {v : Value} {n : Nat} {xs : List Value} (h : w.ownsRow base e 1 v n xs) : ∃ A c, v = .slice A n c ∧ n ≤ c := by
  rcases h.2 with ⟨rfl, rfl⟩ | ⟨g, cap, cur, rfl, _, _, hc, _⟩
  · exact ⟨none, 0, rfl, Nat.le_refl _⟩
  · exact ⟨_, _, rfl, hc⟩
def chunksF (D : Dfa) (s : ByteArray) : Nat → Nat → List ByteArray
  | 0, _ => []
  | f + 1, k => if k < s.size then s.extract k (pieceEnd D s k) :: chunksF D s f (pieceEnd D s k) else []
theorem chunksF_more (D : Dfa) (s : ByteArray) : ∀ (f g k : Nat), s.size - k ≤ f → s.size - k ≤ g → chunksF D s f k = chunksF D s g k
  | 0, 0, _, _, _ => rfl
  | 0, g + 1, k, h, _ => by unfold chunksF; rw [if_neg (by omega)]
  | f + 1, 0, k, _, h => by unfold chunksF; rw [if_neg (by omega)]
  | f + 1, g + 1, k, h1, h2 => by
    unfold chunksF
    by_cases hk : k < s.size
    · rw [if_pos hk, if_pos hk]
      have := pieceEnd_bounds D s k hk
      rw [chunksF_more D s f g _ (by omega) (by omega)]
    · rw [if_neg hk, if_neg hk]
/-- the pieces from a place on -/
def chunks (D : Dfa) (s : ByteArray) (k : Nat) : List ByteArray := chunksF D s (s.size - k) k
theorem chunks_step (D : Dfa) (s : ByteArray) (k : Nat) (h : k < s.size) : chunks D s k = s.extract k (pieceEnd D s k) :: chunks D s (pieceEnd D s k) := by
  have hb := pieceEnd_bounds D s k h
  unfold chunks
  rw [show s.size - k = (s.size - k - 1) + 1 by omega]
  show (if k < s.size then _ else _) = _
  rw [if_pos h, chunksF_more D s (s.size - k - 1) (s.size - pieceEnd D s k) _ (by omega) (by omega)]
theorem chunks_end (D : Dfa) (s : ByteArray) (k : Nat) (h : s.size ≤ k) : chunks D s k = [] := by
  unfold chunks
  rw [show s.size - k = 0 by omega]; rfl
theorem chunks_len (D : Dfa) (s : ByteArray) : ∀ k, (chunks D s k).length = (pieces D s k).length := by
  have key : ∀ f k, (chunksF D s f k).length = (splitF D s f k).length := fun f => by
    induction f with
    | zero => intro k; rfl
    | succ f ih =>
      intro k
      unfold chunksF splitF
      split
      · simp; exact ih _
      · rfl
  exact fun k => key _ _
theorem slice_mid (s : ByteArray) (a b : Nat) (h : a ≤ b) (hb : b ≤ s.size) (W : World) : (Instr.slice 9 (.string s) (some (.int .i64 (a : Int))) (some (.int .i64 (b : Int))) none).run Try.prog W = .ok (.string (s.extract a b)) W := by
  rw [run_slice_string W 9 s .i64 .i64 _ _ Try.underlying9 (by omega) (by omega) (by omega)]
  rfl

set_option maxRecDepth 100000 in
set_option maxHeartbeats 8000000 in
theorem psplit_no (ds : Array Value) (A1 A2 : Option Addr) (n1 n2 c1 c2 : Nat) (D : Dfa) (RA : Nat → Option Addr) (rc : Nat → Nat) (s : ByteArray) (w : World) (h : DfaIn w ds A1 A2 n1 n2 c1 c2 D RA rc) (hr : rightD D = false) :
    Calls Try.prog 48 #[.agg ds, .string s] w fun e w' => e = .returned (.tuple #[.slice none 0 0, .int .i64 81]) ∧ Below w.heap.size w w' := by
  have L0 := LawW.start h
  have hload : ∀ W, LawW w ds A1 A2 n1 n2 c1 c2 D RA rc W → (loadBox (.pointer (some ⟨w.heap.size, 0, none⟩))).run Try.prog W = .ok (.agg ds) W := fun W hW => hW.load
  have HRT := Lib.hid (dright_any ds A1 A2 n1 n2 c1 c2 D RA rc (w.alloc (.cells ds 30)) L0.mach)
  rw [hr] at HRT
  clear h hr
  go_enter Try.func48, Try.ntmps48
  go_wp2_with fail
  refine HRT.out.mono ?_
  rintro e w1 ⟨rfl, hb1⟩
  have L1 := Lib.hid (L0.go hb1)
  clear hb1 L0
  go_wp2_with fail
  go_ret2
  exact ⟨rfl, L1.out.bel⟩

set_option maxRecDepth 100000 in
set_option maxHeartbeats 8000000 in
theorem psplit_long (ds : Array Value) (A1 A2 : Option Addr) (n1 n2 c1 c2 : Nat) (D : Dfa) (RA : Nat → Option Addr) (rc : Nat → Nat) (s : ByteArray) (w : World) (h : DfaIn w ds A1 A2 n1 n2 c1 c2 D RA rc) (hr : rightD D = true) (hs : 262144 < s.size) :
    Calls Try.prog 48 #[.agg ds, .string s] w fun e w' => e = .returned (.tuple #[.slice none 0 0, .int .i64 2]) ∧ Below w.heap.size w w' := by
  have L0 := LawW.start h
  have hload : ∀ W, LawW w ds A1 A2 n1 n2 c1 c2 D RA rc W → (loadBox (.pointer (some ⟨w.heap.size, 0, none⟩))).run Try.prog W = .ok (.agg ds) W := fun W hW => hW.load
  have HRT := Lib.hid (dright_any ds A1 A2 n1 n2 c1 c2 D RA rc (w.alloc (.cells ds 30)) L0.mach)
  rw [hr] at HRT
  have hd : decide ((262144 : Int) < (s.size : Int)) = true := by simp; omega
  clear h hr
  go_enter Try.func48, Try.ntmps48
  go_wp2_with fail
  refine HRT.out.mono ?_
  rintro e w1 ⟨rfl, hb1⟩
  have L1 := Lib.hid (L0.go hb1)
  clear hb1 L0
  go_wp2_with fail
  go_ret2
  exact ⟨rfl, L1.out.bel⟩

/-- Texts, where Split has refused -/
theorem ptexts_bad (ds : Array Value) (A1 A2 : Option Addr) (n1 n2 c1 c2 : Nat) (D : Dfa) (RA : Nat → Option Addr) (rc : Nat → Nat) (s : ByteArray) (w : World) (h : DfaIn w ds A1 A2 n1 n2 c1 c2 D RA rc) (q : Int) (hq : (q != 0) = true)
    (hS : Calls Try.prog 48 #[.agg ds, .string s] (w.alloc (.cells ds 30)) fun e w' => e = .returned (.tuple #[.slice none 0 0, .int .i64 q]) ∧ Below (w.alloc (.cells ds 30)).heap.size (w.alloc (.cells ds 30)) w') :
    Calls Try.prog 21 #[.agg ds, .string s] w fun e w' => e = .returned (.tuple #[.slice none 0 0, .int .i64 q]) ∧ Below w.heap.size w w' := by
  have L0 := LawW.start h
  have hload : ∀ W, LawW w ds A1 A2 n1 n2 c1 c2 D RA rc W → (loadBox (.pointer (some ⟨w.heap.size, 0, none⟩))).run Try.prog W = .ok (.agg ds) W := fun W hW => hW.load
  have HS := Lib.hid hS
  clear h hS
  go_enter Try.func21, Try.ntmps21
  go_wp2_with fail
  refine HS.out.mono ?_
  rintro e w1 ⟨rfl, hb1⟩
  have L1 := Lib.hid (L0.go hb1)
  clear hb1 L0
  go_wp2_with fail
  go_ret2
  exact ⟨rfl, L1.out.bel⟩

set_option maxRecDepth 100000 in
set_option maxHeartbeats 8000000 in
theorem ptexts_ok (ds : Array Value) (A1 A2 : Option Addr) (n1 n2 c1 c2 : Nat) (D : Dfa) (RA : Nat → Option Addr) (rc : Nat → Nat) (s : ByteArray) (w : World) (h : DfaIn w ds A1 A2 n1 n2 c1 c2 D RA rc) (hr : RightD D) (hs : s.size ≤ 262144) :
    Calls Try.prog 21 #[.agg ds, .string s] w fun e w' => ∃ A c, e = .returned (.tuple #[.slice A (chunks D s 0).length c, .int .i64 0]) ∧ Arr w' w'.heap.size 1 A (chunks D s 0).length (StrC (chunks D s 0)) ∧ (chunks D s 0).length ≤ c ∧ Below w.heap.size w w' := by
  obtain ⟨i9, hi9, hz9, hsz9, hbt9⟩ := info_parts info9
  have L0 := LawW.start h
  have hload : ∀ W, LawW w ds A1 A2 n1 n2 c1 c2 D RA rc W → (loadBox (.pointer (some ⟨w.heap.size, 0, none⟩))).run Try.prog W = .ok (.agg ds) W := fun W hW => hW.load
  have HS := Lib.hid (psplit_ok ds A1 A2 n1 n2 c1 c2 D RA rc s (w.alloc (.cells ds 30)) L0.mach hr hs)
  have hpl := pieces_len D s 0
  obtain ⟨n, hn⟩ : ∃ n, n = (pieces D s 0).length := ⟨_, rfl⟩
  rw [← hn] at HS hpl
  have HN := Lib.hid hn
  clear h hr hn
  go_enter Try.func21, Try.ntmps21
  go_wp2_with fail
  refine HS.out.mono ?_
  rintro e w1 ⟨A, c, rfl, harr, hb1⟩
  have L1 := Lib.hid (L0.go hb1)
  have HA := Lib.hid harr
  clear hb1 L0 harr hload
  go_wp2_with fail
  go_loopw [8, 9, 23] (fun v fr i wr => ∃ (k f : Nat) (pre : List Int) (T : List ByteArray), k ≤ n ∧ i = .int .i64 k ∧ fr = .int .i64 f ∧ f ≤ s.size ∧ pre.length = k ∧ pre ++ pieces D s f = pieces D s 0 ∧ T.length = k ∧ T ++ chunks D s f = chunks D s 0 ∧ wr.ownsRow w1.heap.size 9 1 v T.length (strsV T) ∧ Below w1.heap.size w1 wr ∧ w1.heap.size ≤ wr.heap.size) (fun _ _ i _ => n - (intOf i).toNat)
  case atStart => exact ⟨0, 0, [], [], by omega, rfl, rfl, by omega, rfl, rfl, rfl, rfl, World.ownsRow_nil _ _ _ _, Below.refl _ _, Nat.le_refl _⟩
  case round =>
    obtain ⟨k, f, pre, T, hk, rfl, rfl, hf, hpk, hpre, hTk, hT, hown, hbe, hszr⟩ := hrel
    obtain ⟨w3, rfl⟩ : ∃ w3 : World, w3 = wr := ⟨_, rfl⟩
    obtain ⟨v, rfl⟩ : ∃ v : Value, v = u8 := ⟨_, rfl⟩
    have HO := Lib.hid hown
    have HBE := Lib.hid hbe
    have HP := Lib.hid (And.intro hpk hpre)
    have HT := Lib.hid (And.intro hTk hT)
    by_cases hlt : k < n
    · have hfs : f < s.size := by
        apply Classical.byContradiction
        intro h9
        have h8 := congrArg List.length hpre
        rw [pieces_end D s f (by omega), List.append_nil, ← HN.out] at h8
        omega
      have hpb := pieceEnd_bounds D s f hfs
      obtain ⟨b, o, rfl, _, hc⟩ := (HA.out.below hbe).one hlt
      unfold NumC at hc
      have hel : (pieces D s 0).getD k 0 = (pieceEnd D s f : Int) := by
        rw [← hpre, pieces_step D s f hfs, List.getD_eq_getElem?_getD, List.getElem?_append_right (by omega)]
        simp [hpk]
      rw [hel] at hc
      obtain ⟨pe, hpe⟩ : ∃ pe, pe = pieceEnd D s f := ⟨_, rfl⟩
      rw [← hpe] at hc hpb
      have hsl := fun W => slice_mid s f pe (by omega) (by omega) W
      have HPE := Lib.hid hpe
      have HTK := Lib.hid (by omega : T.length ≤ 262144)
      obtain ⟨t, ht⟩ : ∃ t, t = s.extract f pe := ⟨_, rfl⟩
      rw [← ht] at hsl
      have HTT := Lib.hid ht
      clear hpk hpre hTk hT hown hbe hel hpe ht
      go_wp2_with (first
        | (at_builtin; refine wpList_app1 w1 _ rfl (.tmp 27) (.tmp 32) 54 rfl w1.heap.size 9 i9 (.string ⟨#[]⟩) 16 Try.underlying54 hi9 hz9 hsz9 hbt9 rfl _ T.length (strsV T) rfl (HO.out.alloc _) (HBE.out.alloc hszr _) (.string t) _ rfl (by go_simp) rfl (by have := HTK.out; omega) (by have := HTK.out; unfold maxLen; omega) (by simp; omega) ?_; intro v5 w5 hown5 hbel5 hg5))
      go_roundw
      case rel => exact ⟨k + 1, pe, pre ++ [(pe : Int)], T ++ [t], by omega, by go_num, rfl, by omega, by simp [HP.out.1], by rw [← HP.out.2, pieces_step D s f hfs, ← HPE.out, List.append_assoc]; rfl, by simp [HT.out.1], by rw [← HT.out.2, chunks_step D s f hfs, ← HPE.out, ← HTT.out, List.append_assoc]; rfl, by rw [List.length_append, strsV_snoc]; exact hown5, hbel5, hbel5.size⟩
      case measure => simp [intOf]; omega
    · obtain rfl : k = n := by omega
      have hfin : T = chunks D s 0 := by
        have h8 := congrArg List.length hT
        rw [List.length_append, chunks_len, chunks_len, hTk, ← HN.out] at h8
        have h7 : chunks D s f = [] := List.eq_nil_of_length_eq_zero (by rw [chunks_len]; omega)
        rw [← hT, h7, List.append_nil]
      have HFIN := Lib.hid hfin
      clear hpk hpre hTk hT hown hbe hfin
      go_wp2_with fail
      obtain ⟨A, c, hv, hcap⟩ := own_cap HO.out
      go_ret2
      rw [HFIN.out] at hv hcap
      refine ⟨A, c, by rw [← hv]; rfl, ?_, hcap, L1.out.bel.trans (HBE.out.mono (Nat.le_of_lt L1.out.lt))⟩
      have h8 := HO.out
      rw [HFIN.out, hv] at h8
      exact own_strs h8
end Go.Proofs.Ytfjhcoeehjephaa.D8
