/- HSm, HLAgain of this seat, in one text. -/
import Derived.Test.YtfjgfabochiflaaHTkDTc
import Derived.Test.YtfjgfabochiflaaHAlive
/- Lists held against each other; a text's first bytes. -/
namespace Go.Proofs.Ytfjgfabochiflaa.H14
open Go.RowKit

/-- a slice of ints -/
def IntC (xs : List Int) (k _j : Nat) : Value := .int .i64 (xs.getD k 0)
theorem ints_any (A1 A2 : Option Addr) (n1 n2 c1 c2 B : Nat) (xs ys : List Int) (w : World) (hx : xs.length = n1) (hy : ys.length = n2) (hn : n1 ≤ 9223372036854775807) (hn2 : n2 ≤ 9223372036854775807)
    (h1 : Arr w B 1 A1 n1 (IntC xs)) (h2 : Arr w B 1 A2 n2 (IntC ys)) :
    Calls Try.prog 23 #[.slice A1 n1 c1, .slice A2 n2 c2] w fun e w' => e = .returned (.bool (decide (xs = ys))) ∧ ∃ m, w' = w.drewN m := by
  have H1 := Lib.hid h1
  have H2 := Lib.hid h2
  clear h1 h2
  by_cases hnn : n1 = n2
  · obtain rfl : n2 = n1 := hnn.symm
    go_enter Try.func23, Try.ntmps23
    go_wp2
    go_loopw [13] (fun i wr => ∃ k m : Nat, k ≤ n2 ∧ i = .int .i64 k ∧ (∀ j, j < k → xs.getD j 0 = ys.getD j 0) ∧ wr = w.drewN m) (fun i _ => n2 - (intOf i).toNat)
    case atStart => exact ⟨0, 0, Nat.zero_le _, rfl, fun j hj => absurd hj (by omega), rfl⟩
    case round =>
      obtain ⟨k, m, hk, rfl, heq, rfl⟩ := hrel
      have HQ := Lib.hid heq
      clear heq
      by_cases hlt : k < n2
      · obtain ⟨b1, o1, rfl, _, hc1⟩ := H1.out.one hlt
        obtain ⟨b2, o2, rfl, _, hc2⟩ := H2.out.one hlt
        unfold IntC at hc1 hc2
        obtain ⟨x, hxk⟩ : ∃ x, x = xs.getD k 0 := ⟨_, rfl⟩
        obtain ⟨y, hyk⟩ : ∃ y, y = ys.getD k 0 := ⟨_, rfl⟩
        rw [← hxk] at hc1
        rw [← hyk] at hc2
        have HX := Lib.hid hxk
        have HY := Lib.hid hyk
        clear hxk hyk
        go_wp2
        go_quiet (fail)
        go_wp2
        · have hb := (by assumption : (x != y) = true)
          go_ret
          have hne : ¬ xs = ys := by
            intro h
            have := HX.out; have := HY.out
            subst h; simp_all
          exact ⟨by simp [hne], _, World.drewN_drewN _ _ _⟩
        · have hb := (by assumption : (x != y) = false)
          go_roundw
          case rel => exact ⟨k + 1, _, by omega, by go_num, fun j hj => by
                        by_cases h : j < k
                        · exact HQ.out j h
                        · obtain rfl : j = k := by omega
                          rw [← HX.out, ← HY.out]; simpa using hb, rfl⟩
          case measure => simp [intOf]; omega
      · go_wp2
        go_ret
        have he : xs = ys := by
          apply List.ext_getElem (by omega)
          intro j h1 h2
          simpa [h1, h2] using HQ.out j (by omega)
        exact ⟨by simp [he], _, rfl⟩
  · have hb : ((n1 : Int) != (n2 : Int)) = true := by rw [bne_iff_ne]; omega
    have hne : ¬ xs = ys := by rintro rfl; omega
    go_enter Try.func23, Try.ntmps23
    go_wp2
    go_ret
    exact ⟨by simp [hne], 0, rfl⟩

/-- a text's first so many bytes -/
def cutS (s : ByteArray) (k : Nat) : ByteArray := if k < s.size then s.extract 0 k else s
theorem cutS_le (s : ByteArray) (k : Nat) : (cutS s k).size ≤ k := by
  unfold cutS
  split
  · rw [ByteArray.size_extract]; omega
  · omega
end Go.Proofs.Ytfjgfabochiflaa.H14
/- HeapAgain, with its arguments laid open. -/
namespace Go.Proofs.Ytfjgfabochiflaa.H14
open Go.RowKit Go.Maps Go.WideMaps
theorem rankTo_lt {dr : Nat → Bool} {l : List (Int × Int)} {a b : Int} : ∀ {n k : Nat}, rankTo dr l a b n = some k → k < n
  | 0, k, h => by cases h
  | n + 1, k, h => by
    rw [rankTo] at h
    cases hr : rankTo dr l a b n with
    | some m =>
      rw [hr] at h
      injection h with h
      have := rankTo_lt hr
      omega
    | none =>
      rw [hr] at h
      dsimp only at h
      split at h
      · injection h with h; omega
      · cases h
theorem rank_small (dr : Nat → Bool) (l : List (Int × Int)) (n : Nat) (hn : n ≤ 1024) : FSmall (fun a b => rankTo dr l a b n) := fun a b k h => by
  have := rankTo_lt h
  omega
/-- a list that was told, apart from the engine's blocks -/
def RowA (W : World) (B : Nat) (x : Value) (o : List Int) (S : Nat → Prop) : Prop := ∃ A c, x = .slice A o.length c ∧ W.ownsRow B 3 1 (.slice A o.length c) o.length (numsV .i64 o) ∧ ∀ k, (Value.slice A o.length c).ownBlock = some k → ¬ S k
theorem RowA.step {W W' : World} {B : Nat} {x : Value} {o : List Int} {S S' : Nat → Prop} (h : RowA W B x o S) (hb : But S W W') (hs : ∀ k, k < W.heap.size → S' k → S k) : RowA W' B x o S' := by
  obtain ⟨A, c, rfl, ho, hn⟩ := h
  exact ⟨A, c, rfl, hb.own ho hn, fun k hk e => hn k hk (hs k (ho.lt k hk).2 e)⟩
theorem RowA.drewN {W : World} {B : Nat} {x : Value} {o : List Int} {S : Nat → Prop} (h : RowA W B x o S) (m : Nat) : RowA (W.drewN m) B x o S := h
theorem RowA.arr {W : World} {B : Nat} {x : Value} {o : List Int} {S : Nat → Prop} (h : RowA W B x o S) : ∃ A c, x = .slice A o.length c ∧ o.length ≤ 9223372036854775807 ∧ Arr W W.heap.size 1 A o.length (IntC o) := by
  obtain ⟨A, c, rfl, ho, hn⟩ := h
  refine ⟨A, c, rfl, ?_, own_ints ho⟩
  rcases ho.2 with ⟨_, h2⟩ | ⟨g, cap, cur, hv, _, _, h3, h4, _⟩
  · omega
  · unfold maxLen at h4; omega
theorem RowA.arrA {W : World} {B : Nat} {A : Option Addr} {n c : Nat} {o : List Int} {S : Nat → Prop} (h : RowA W B (.slice A n c) o S) : n = o.length ∧ Arr W W.heap.size 1 A n (IntC o) := by
  obtain ⟨A', c', hv, _, ha⟩ := h.arr
  injection hv with h1 h2 h3
  subst h1 h2
  exact ⟨rfl, ha⟩
structure AG (w0 W : World) (ge gm : Nat) (fv bv : Value) (m : Nat) (D : DataW Unit) (n : Nat) (F : Int → Int → Option Nat) : Prop where
  bel : Below w0.heap.size w0 W
  eg : Eg W w0.heap.size ge gm fv bv m D n F
theorem AG.lo {w0 W : World} {ge gm m n : Nat} {fv bv : Value} {D : DataW Unit} {F : Int → Int → Option Nat} (h : AG w0 W ge gm fv bv m D n F) : ∀ k, TS ge fv bv k → w0.heap.size ≤ k := fun k hk => by
  rcases hk with rfl | hk | hk
  · exact h.eg.geB
  · exact (h.eg.fo.lt k hk).1
  · obtain ⟨bn, xs, hb⟩ := h.eg.bo
    exact (hb.lt k hk).1
theorem AG.go {w0 W W' : World} {ge gm m n : Nat} {fv bv : Value} {D : DataW Unit} {F : Int → Int → Option Nat} (h : AG w0 W ge gm fv bv m D n F) (hb : Below W.heap.size W W') : AG w0 W' ge gm fv bv m D n F :=
  ⟨h.bel.trans (hb.mono h.bel.size), h.eg.go hb⟩
/-- a text is asked: what is told, and what stays -/
theorem AG.ask {w0 W : World} {ge gm m n : Nat} {fv bv : Value} {D : DataW Unit} {F : Int → Int → Option Nat} (h : AG w0 W ge gm fv bv m D n F) (hF : FSmall F) (s : ByteArray) (hs : s.size ≤ 262144) :
    Calls Try.prog 63 #[.pointer (some ⟨ge, 0, none⟩), .string s] W fun e W' => ∃ x o fv' bv', e = .returned (.tuple #[x, .int .i64 0]) ∧ mergeF (fget F) 1280 (bytesI s) = some o ∧ AG w0 W' ge gm fv' bv' 1 D n F ∧ RowA W' w0.heap.size x o (TS ge fv' bv') ∧
      ∀ y p, RowA W w0.heap.size y p (TS ge fv bv) → RowA W' w0.heap.size y p (TS ge fv' bv') := by
  refine (tokens_walk W w0.heap.size ge gm m n fv bv D F h.eg h.bel.size s s.size rfl hs hF).mono ?_
  rintro e W' ⟨o, A, c, fv', bv', rfl, hm, ho, hb, he, hs2, hn⟩
  refine ⟨_, o, fv', bv', rfl, hm, ⟨h.bel.trans (hb.below h.bel.size h.lo), he⟩, ⟨A, c, rfl, own_base ho h.bel.size, hn⟩, fun y p hy => hy.step hb hs2⟩
end Go.Proofs.Ytfjgfabochiflaa.H14
