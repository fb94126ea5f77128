/- HeapAgain, with its arguments laid open. -/
import Derived.Test.YtklklmaclaohaaaSm
namespace Go.Proofs.Ytklklmaclaohaaa
open Go.RowKit Go.Maps Go.WideMaps
theorem rankTo_lt {dr : Nat → Bool} {l : List (Int × Int)} {a b : Int} : ∀ {n k : Nat}, rankTo dr l a b n = some k → k < n
  | 0, k, h => by cases h
  | n + 1, k, h => by
    rw [rankTo] at h
    cases hr : rankTo dr l a b n with
    | some m =>
      rw [hr] at h
      injection h with h
      have := rankTo_lt hr
      omega
    | none =>
      rw [hr] at h
      dsimp only at h
      split at h
      · injection h with h; omega
      · cases h
theorem rank_small (dr : Nat → Bool) (l : List (Int × Int)) (n : Nat) (hn : n ≤ 1024) : FSmall (fun a b => rankTo dr l a b n) := fun a b k h => by
  have := rankTo_lt h
  omega
/-- a list that was told, apart from the engine's blocks -/
def RowA (W : World) (B : Nat) (x : Value) (o : List Int) (S : Nat → Prop) : Prop := ∃ A c, x = .slice A o.length c ∧ W.ownsRow B 3 1 (.slice A o.length c) o.length (numsV .i64 o) ∧ ∀ k, (Value.slice A o.length c).ownBlock = some k → ¬ S k
theorem RowA.step {W W' : World} {B : Nat} {x : Value} {o : List Int} {S S' : Nat → Prop} (h : RowA W B x o S) (hb : But S W W') (hs : ∀ k, k < W.heap.size → S' k → S k) : RowA W' B x o S' := by
  obtain ⟨A, c, rfl, ho, hn⟩ := h
  exact ⟨A, c, rfl, hb.own ho hn, fun k hk e => hn k hk (hs k (ho.lt k hk).2 e)⟩
theorem RowA.drewN {W : World} {B : Nat} {x : Value} {o : List Int} {S : Nat → Prop} (h : RowA W B x o S) (m : Nat) : RowA (W.drewN m) B x o S := h
theorem RowA.arr {W : World} {B : Nat} {x : Value} {o : List Int} {S : Nat → Prop} (h : RowA W B x o S) : ∃ A c, x = .slice A o.length c ∧ o.length ≤ 9223372036854775807 ∧ Arr W W.heap.size 1 A o.length (IntC o) := by
  obtain ⟨A, c, rfl, ho, hn⟩ := h
  refine ⟨A, c, rfl, ?_, own_ints ho⟩
  rcases ho.2 with ⟨_, h2⟩ | ⟨g, cap, cur, hv, _, _, h3, h4, _⟩
  · omega
  · unfold maxLen at h4; omega
theorem RowA.arrA {W : World} {B : Nat} {A : Option Addr} {n c : Nat} {o : List Int} {S : Nat → Prop} (h : RowA W B (.slice A n c) o S) : n = o.length ∧ Arr W W.heap.size 1 A n (IntC o) := by
  obtain ⟨A', c', hv, _, ha⟩ := h.arr
  injection hv with h1 h2 h3
  subst h1 h2
  exact ⟨rfl, ha⟩
structure AG (w0 W : World) (ge gm : Nat) (fv bv : Value) (m : Nat) (D : DataW Unit) (n : Nat) (F : Int → Int → Option Nat) : Prop where
  bel : Below w0.heap.size w0 W
  eg : Eg W w0.heap.size ge gm fv bv m D n F
theorem AG.lo {w0 W : World} {ge gm m n : Nat} {fv bv : Value} {D : DataW Unit} {F : Int → Int → Option Nat} (h : AG w0 W ge gm fv bv m D n F) : ∀ k, TS ge fv bv k → w0.heap.size ≤ k := fun k hk => by
  rcases hk with rfl | hk | hk
  · exact h.eg.geB
  · exact (h.eg.fo.lt k hk).1
  · obtain ⟨bn, xs, hb⟩ := h.eg.bo
    exact (hb.lt k hk).1
theorem AG.go {w0 W W' : World} {ge gm m n : Nat} {fv bv : Value} {D : DataW Unit} {F : Int → Int → Option Nat} (h : AG w0 W ge gm fv bv m D n F) (hb : Below W.heap.size W W') : AG w0 W' ge gm fv bv m D n F :=
  ⟨h.bel.trans (hb.mono h.bel.size), h.eg.go hb⟩
/-- a text is asked: what is told, and what stays -/
theorem AG.ask {w0 W : World} {ge gm m n : Nat} {fv bv : Value} {D : DataW Unit} {F : Int → Int → Option Nat} (h : AG w0 W ge gm fv bv m D n F) (hF : FSmall F) (s : ByteArray) (hs : s.size ≤ 262144) :
    Calls Try.prog 11 #[.pointer (some ⟨ge, 0, none⟩), .string s] W fun e W' => ∃ x o fv' bv', e = .returned (.tuple #[x, .int .i64 0]) ∧ mergeF (fget F) 1280 (bytesI s) = some o ∧ AG w0 W' ge gm fv' bv' 1 D n F ∧ RowA W' w0.heap.size x o (TS ge fv' bv') ∧
      ∀ y p, RowA W w0.heap.size y p (TS ge fv bv) → RowA W' w0.heap.size y p (TS ge fv' bv') := by
  refine (tokens_walk W w0.heap.size ge gm m n fv bv D F h.eg h.bel.size s s.size rfl hs hF).mono ?_
  rintro e W' ⟨o, A, c, fv', bv', rfl, hm, ho, hb, he, hs2, hn⟩
  refine ⟨_, o, fv', bv', rfl, hm, ⟨h.bel.trans (hb.below h.bel.size h.lo), he⟩, ⟨A, c, rfl, own_base ho h.bel.size, hn⟩, fun y p hy => hy.step hb hs2⟩
set_option maxRecDepth 100000 in
set_option maxHeartbeats 8000000 in
theorem law_hagain (A : Option Addr) (n c : Nat) (l : List (Int × Int)) (a b : ByteArray) (w : World) (hl : l.length = n) (hn : n ≤ 140737488355328) (h1 : Arr w w.heap.size 2 A n (PairC l)) :
    Calls Try.prog 5 #[.slice A n c, .string a, .string b] w fun e w' => e = .returned (.bool true) ∧ Below w.heap.size w w' := by
  have H1 := Lib.hid h1
  have HA := Lib.hid (short_any a 200 (by omega))
  have HB := Lib.hid (short_any b 200 (by omega))
  obtain ⟨sa, hsa⟩ : ∃ s, s = cutS a 200 := ⟨_, rfl⟩
  obtain ⟨sb, hsb⟩ : ∃ s, s = cutS b 200 := ⟨_, rfl⟩
  have HSA := Lib.hid (show sa.size ≤ 262144 by rw [hsa]; have := cutS_le a 200; omega)
  have HSB := Lib.hid (show sb.size ≤ 262144 by rw [hsb]; have := cutS_le b 200; omega)
  rw [← hsa] at HA
  rw [← hsb] at HB
  clear h1 hsa hsb
  go_enter Try.func5, Try.ntmps5
  go_wp2_with fail
  refine (alive_any _).mono ?_
  rintro e w1 ⟨rfl, hb1⟩
  have HB1 := Lib.hid hb1
  clear hb1
  go_wp2_with fail
  refine (HA.out _).mono ?_
  rintro e w2 ⟨rfl, rfl⟩
  go_wp2_with fail
  refine (HB.out _).mono ?_
  rintro e w2 ⟨rfl, rfl⟩
  go_wp2_with fail
  refine (new_nil A n c l _ hl hn ((H1.out.below HB1.out).more HB1.out.size)).mono ?_
  rintro e w3 ⟨hb3, hr⟩
  have HB3 := Lib.hid (HB1.out.trans (hb3.mono HB1.out.size))
  rcases hr with ⟨h0, rfl⟩ | ⟨h0, ge, gm, D, rfl, hE⟩
  · have e0 : ((texts l).2 != 0) = true := by simpa using h0
    clear hb3
    go_wp2_with fail
    go_returns
    exact ⟨by first | rfl | simp, HB3.out⟩
  · have hn1 : n ≤ 1024 := by rw [← hl]; exact (texts_valid h0).1
    have HF := Lib.hid (rank_small noDrop l n hn1)
    have hE2 : EngIn w3 w.heap.size ge gm (.slice none 0 0) D n (fun a b => rankTo noDrop l a b n) := ⟨by have := hE.geB; have := HB1.out.size; omega, by have := hE.gmB; have := HB1.out.size; omega, hE.ne, hE.box, hE.map, hE.rk⟩
    have HG3 := Lib.hid (show AG w w3 ge gm (.slice none 0 0) (.slice none 0 0) 0 D n (fun a b => rankTo noDrop l a b n) from ⟨HB3.out, Eg.start hE2⟩)
    generalize (fun a b => rankTo noDrop l a b n) = F at HF HG3
    clear hb3 hE hE2 h0 HB3
    go_wp2_with fail
    refine (HG3.out.ask HF.out sa HSA.out).mono ?_
    rintro e w4 ⟨x, ox, fv4, bv4, rfl, hmx, hg4, hx4, _⟩
    have H4 := Lib.hid (And.intro hmx (And.intro hg4 hx4))
    clear hmx hg4 hx4 HG3
    go_wp2_with fail
    refine (H4.out.2.1.ask HF.out sb HSB.out).mono ?_
    rintro e w5 ⟨y, oy, fv5, bv5, rfl, hmy, hg5, hy5, hk5⟩
    have H5 := Lib.hid (And.intro hmy (And.intro hg5 (And.intro hy5 (hk5 x ox H4.out.2.2))))
    clear hmy hg5 hy5 hk5
    obtain ⟨Ax, cx, rfl, hlx, _⟩ := H5.out.2.2.2.arr
    obtain ⟨Ay, cy, rfl, hly, _⟩ := H5.out.2.2.1.arr
    obtain ⟨nx, hnx⟩ : ∃ n, n = ox.length := ⟨_, rfl⟩
    obtain ⟨ny, hny⟩ : ∃ n, n = oy.length := ⟨_, rfl⟩
    rw [← hnx] at H4 H5 hlx ⊢
    rw [← hny] at H5 hly ⊢
    have HN := Lib.hid (And.intro hnx hny)
    clear hnx hny
    go_wp2_with fail
    go_loopw [45] (fun i wr => ∃ (k : Nat) (fv bv : Value), k ≤ 8 ∧ i = .int .i64 k ∧ AG w wr ge gm fv bv 1 D n F ∧ RowA wr w.heap.size (.slice Ax nx cx) ox (TS ge fv bv) ∧ RowA wr w.heap.size (.slice Ay ny cy) oy (TS ge fv bv)) (fun i _ => 8 - (intOf i).toNat)
    case atStart => exact ⟨0, fv5, bv5, by omega, rfl, H5.out.2.1, H5.out.2.2.2, H5.out.2.2.1⟩
    case round =>
      obtain ⟨k, fv, bv, hk, rfl, hG, hX, hY⟩ := hrel
      have HG := Lib.hid (And.intro hG (And.intro hX hY))
      clear hG hX hY
      by_cases hlt : k < 8
      · by_cases h3 : k % 3 = 0
        · have r1 : (((k : Int) % 3) == 0) = true := by simp; omega
          have r2 : (((k : Int).tmod 3) == 0) = true := by rw [Int.tmod_eq_emod_of_nonneg (by omega)]; exact r1
          clear h3
          go_wp2_with fail
          refine (HG.out.1.ask HF.out sa HSA.out).mono ?_
          rintro e w6 ⟨z, oz, fv6, bv6, rfl, hmz, hg6, hz6, hk6⟩
          obtain rfl : oz = ox := by rw [H4.out.1] at hmz; injection hmz with hmz; exact hmz.symm
          have hX6 := hk6 _ _ HG.out.2.1
          have hY6 := hk6 _ _ HG.out.2.2
          obtain ⟨Az, cz, rfl, hlz, haz⟩ := hz6.arr
          have hax := (hX6).arrA
          have H6 := Lib.hid (And.intro hg6 (And.intro hX6 hY6))
          have HI := Lib.hid (ints_any Az Ax oz.length nx cz cx w6.heap.size oz oz w6 rfl hax.1.symm (by omega) (by omega) haz hax.2)
          have e9 : decide (oz = oz) = true := by simp
          clear hmz hg6 hz6 hk6 hX6 hY6 haz hax
          go_wp2_with fail
          refine HI.out.mono ?_
          rintro e w7 ⟨rfl, m7, rfl⟩
          go_wp2_with fail
          go_roundw
          case rel => exact ⟨k + 1, fv6, bv6, by omega, by go_num, H6.out.1.go (below_drewN (Below.refl _ _) _), H6.out.2.1.drewN _, H6.out.2.2.drewN _⟩
          case measure => simp [intOf]; omega
        · have r1 : (((k : Int) % 3) == 0) = false := by simp; omega
          have r2 : (((k : Int).tmod 3) == 0) = false := by rw [Int.tmod_eq_emod_of_nonneg (by omega)]; exact r1
          clear h3
          go_wp2_with fail
          refine (HG.out.1.ask HF.out sb HSB.out).mono ?_
          rintro e w6 ⟨z, oz, fv6, bv6, rfl, hmz, hg6, hz6, hk6⟩
          obtain rfl : oz = oy := by rw [H5.out.1] at hmz; injection hmz with hmz; exact hmz.symm
          have hX6 := hk6 _ _ HG.out.2.1
          have hY6 := hk6 _ _ HG.out.2.2
          obtain ⟨Az, cz, rfl, hlz, haz⟩ := hz6.arr
          have hax := (hY6).arrA
          have H6 := Lib.hid (And.intro hg6 (And.intro hX6 hY6))
          have HI := Lib.hid (ints_any Az Ay oz.length ny cz cy w6.heap.size oz oz w6 rfl hax.1.symm (by omega) (by omega) haz hax.2)
          have e9 : decide (oz = oz) = true := by simp
          clear hmz hg6 hz6 hk6 hX6 hY6 haz hax
          go_wp2_with fail
          refine HI.out.mono ?_
          rintro e w7 ⟨rfl, m7, rfl⟩
          go_wp2_with fail
          go_roundw
          case rel => exact ⟨k + 1, fv6, bv6, by omega, by go_num, H6.out.1.go (below_drewN (Below.refl _ _) _), H6.out.2.1.drewN _, H6.out.2.2.drewN _⟩
          case measure => simp [intOf]; omega
      · obtain rfl : k = 8 := by omega
        go_wp2_with fail
        go_returns
        exact ⟨by first | rfl | simp, HG.out.1.bel⟩
end Go.Proofs.Ytklklmaclaohaaa
