/- tok.Tok's own closure: ids of names, put behind what there is. -/
import Derived.Test.YtfjgfabochiflaaNormTc
import Derived.Test.YtfjgfabochiflaaHTkDTc
namespace Go.Proofs.Ytfjgfabochiflaa
open Go.RowKit
open H14 (Blk But TS)

theorem info3 : (Try.prog.info? 3).map (fun i => (i.zero, i.size, i.bytes)) = some (some (.int .i64 0), 1, 8) := by kernel_rfl
theorem cell_block {W W' : World} {b o : Nat} (h : W'.heap[b]? = W.heap[b]?) : W'.cell? ⟨b, o, none⟩ = W.cell? ⟨b, o, none⟩ := by simp [World.cell?, h]
def upI (N : Nat) (l : List Int) : List Int := l.map fun x => 256 + (N : Int) + x
theorem upI_snoc (N : Nat) (l : List Int) (x : Int) : upI N (l ++ [x]) = upI N l ++ [256 + (N : Int) + x] := by simp [upI]
/-- what changes when a box go and its row v grow -/
def GS (go : Nat) (v : Value) (k : Nat) : Prop := k = go ∨ v.ownBlock = some k
theorem box_ne {w : World} {go : Nat} {x : List Value} {base n : Nat} {v : Value} {xs : List Value} (hb : Blk w go 32 x) (ho : w.ownsRow base 3 1 v n xs) : v.ownBlock ≠ some go := fun e => by
  rcases ho.2 with ⟨rfl, _⟩ | ⟨g, cap, cur, rfl, _, hg, _⟩
  · simp [Value.ownBlock] at e
  · simp [Value.ownBlock] at e
    subst e
    have h2 : w.heap[g]? = some (.cells x.toArray 32 (0, 0)) := hb
    rw [hg] at h2
    cases h2
set_option maxRecDepth 100000 in
set_option maxHeartbeats 8000000 in
theorem special_any (B gc go : Nat) (M : Option Addr) (nm cm : Nat) (A : Option Addr) (n c : Nat) (l : List Int) (out : List Int) (v : Value) (w : World)
    (hM : w.cell? ⟨gc, 9, none⟩ = some (.slice M nm cm)) (hgo : Blk w go 32 [v]) (hown : w.ownsRow B 3 1 v out.length (H14.numsV .i64 out)) (hB : B ≤ w.heap.size)
    (hgc : gc < w.heap.size) (hne : gc ≠ go) (hng : v.ownBlock ≠ some gc)
    (hl : l.length = n) (hn : n ≤ 32) (hA : Arr w B 1 A n (T12.NumC .i64 l)) (hrg : ∀ j, j < n → 0 ≤ l.getD j 0 ∧ l.getD j 0 < 64) (hnm : nm ≤ 1024) (hol : out.length ≤ 1000000) (hgoB : B ≤ go) :
    Calls Try.prog 60 #[.slice A n c, .pointer (some ⟨go, 0, none⟩), .pointer (some ⟨gc, 0, none⟩)] w fun e w' => e = .returned (.tuple #[]) ∧
      ∃ v', Blk w' go 32 [v'] ∧ w'.ownsRow B 3 1 v' (out ++ upI nm l).length (H14.numsV .i64 (out ++ upI nm l)) ∧ But (GS go v) w w' ∧ (∀ k, k < w.heap.size → v'.ownBlock = some k → v.ownBlock = some k) := by
  obtain ⟨i3, hi3, hz3, hs3, hb3⟩ := info_parts info3
  have H0 := Lib.hid (And.intro hgo hown)
  have HA := Lib.hid hA
  have HL := Lib.hid hl
  have HR := Lib.hid hrg
  clear hgo hown hA hl hrg
  go_enter Try.func60, Try.ntmps60
  go_wp2_with fail
  go_loopw [8] (fun i wr => ∃ (k : Nat) (u : Value), k ≤ n ∧ i = .int .i64 (k : Int) ∧ Blk wr go 32 [u] ∧ wr.ownsRow B 3 1 u (out ++ upI nm (l.take k)).length (H14.numsV .i64 (out ++ upI nm (l.take k))) ∧ But (GS go v) w wr ∧ (∀ k, k < w.heap.size → u.ownBlock = some k → v.ownBlock = some k)) (fun i _ => n - (intOf i).toNat)
  case atStart => exact ⟨0, v, by omega, rfl, H0.out.1, by simpa [upI] using H0.out.2, But.refl _ _, fun k _ h => h⟩
  case round =>
    obtain ⟨k, u, hk, rfl, hbx, hown, hbut, hold⟩ := hrel
    have hsz := hbut.size
    have r9 : wr.cell? ⟨gc, 9, none⟩ = some (.slice M nm cm) := (cell_block (hbut.block gc hgc (fun h => h.elim hne hng))).trans hM
    have hbel : Below B w wr := hbut.below hB (fun k hk => by
      rcases hk with rfl | hk
      · exact hgoB
      · exact (H0.out.2.lt k hk).1)
    by_cases hlt : k < n
    · obtain ⟨b, o, rfl, hblt, hc⟩ := (HA.out.below hbel).one hlt
      unfold T12.NumC at hc
      have hx := HR.out k hlt
      obtain ⟨x, hxd⟩ : ∃ x, x = l.getD k 0 := ⟨_, rfl⟩
      rw [← hxd] at hc hx
      have HS := Lib.hid (show out ++ upI nm (l.take (k + 1)) = (out ++ upI nm (l.take k)) ++ [256 + (nm : Int) + x] by
        rw [take_next l k 0 (by have := HL.out; omega), upI_snoc, ← hxd, List.append_assoc])
      have hlen : (out ++ upI nm (l.take k)).length ≤ 1000032 := by
        rw [List.length_append, upI, List.length_map, List.length_take]; omega
      obtain ⟨oo, hoo⟩ : ∃ oo, oo = out ++ upI nm (l.take k) := ⟨_, rfl⟩
      rw [← hoo] at hown HS hlen
      have hne2 := box_ne hbx hown
      have p0 := hbx.cell 0
      have f0 := hbx.frozen 0
      simp only [List.getElem?_cons_zero] at p0
      have hbz : B ≤ wr.heap.size := by omega
      have hgl := hbx.lt
      have hw2 : (256 : Int) + (nm : Int) + x ≤ 2000 ∧ 0 ≤ (256 : Int) + (nm : Int) + x := by omega
      have HBX := Lib.hid hbx
      have HOW := Lib.hid hown
      have HBUT := Lib.hid hbut
      have HOLD := Lib.hid hold
      have HOO := Lib.hid hoo
      have hcap : (oo.length + 1) * 8 ≤ 140737488355328 := by omega
      clear hbx hown hbut hold hoo hbel hxd
      go_wp2_with (at_builtin; refine wpList_append_own_at _ rfl (.tmp 12) (.tmp 19) 32 rfl B 3 i3 (.int .i64 0) 1 8 Try.underlying32 hi3 hz3 hs3 hb3 rfl (by decide) u oo.length (H14.numsV .i64 oo) rfl (HOW.out.alloc _) ⟨wr.heap.size, 0, none⟩ 1 1 [.int .i64 (256 + (nm : Int) + x)] rfl rfl ?c1 ?c2 (by unfold maxLen; omega) hcap (by simp; omega) ?_; (case c1 => intro j y hj; match j, hj with | 0, hj => simp at hj; subst hj; simp [Addr.add]); (case c2 => intro y hy; simp at hy; subst hy; rfl); intro v6 w6 hown6 hgrow6 _ hwh6; have hb6 : Blk w6 go 32 [u] := (hgrow6.block go (by simp; omega) (fun e => hne2 e.symm)).trans (HBX.out.alloc _); have e0 := hb6.cell 0; have g0 := hb6.frozen 0; simp only [List.getElem?_cons_zero] at e0; obtain ⟨A6, c6, rfl⟩ := own_form hown6; have H6 := Lib.hid (And.intro hown6 (And.intro hgrow6 (And.intro hwh6 hb6))); clear hown6 hgrow6 hwh6 hb6)
      go_roundw
      case rel =>
        have h1 := H6.out.1
        have h2 := H6.out.2.1
        have h3 := H6.out.2.2.1
        have h4 := H6.out.2.2.2
        have hnew : (Value.slice A6 (oo.length + 1) c6).ownBlock ≠ some go := box_ne h4 h1
        have hbs := But.of_grown (H14.grownBy_setCell w6 go 0 (.slice A6 (oo.length + 1) c6))
        have ha := (But.of_below ((Below.refl _ wr).alloc (Nat.le_refl _) (.cells #[.int .i64 (256 + (nm : Int) + x)] 3))).mono (S' := GS go u) (fun k hk h9 => by omega)
        have hg2 := (But.of_grown h2).mono (S' := GS go u) (fun k _ h => .inr h)
        have hs2 := hbs.mono (S' := GS go u) (fun k _ h => .inl (by injection h with h; exact h.symm))
        have hb1 := ha.trans (hg2.trans hs2 (fun k _ h => h)) (fun k _ h => h)
        refine ⟨k + 1, .slice A6 (oo.length + 1) c6, by omega, by go_num, h4.set 0 _, ?_, HBUT.out.trans hb1 (fun k hk h => h.elim .inl (fun h => .inr (HOLD.out k hk h))), ?_⟩
        · rw [HS.out, List.length_append, List.length_singleton, H14.numsV_snoc]
          exact hbs.own h1 (fun k hk h => by injection h with h; exact hnew (by rw [hk, h]))
        · intro k hk h
          rcases h3 with h3 | h3
          · exact HOLD.out k hk (by rw [← h3]; exact h)
          · rw [h] at h3
            injection h3 with h3
            have := HBUT.out.size
            simp at h3
            omega
      case measure => simp [intOf]; omega
    · obtain rfl : k = n := by omega
      go_wp2_with fail
      go_returns
      have hfull : l.take k = l := List.take_of_length_le (by rw [HL.out]; exact Nat.le_refl _)
      rw [hfull] at hown
      exact ⟨by first | rfl | simp, u, hbx, hown, hbut, hold⟩
end Go.Proofs.Ytfjgfabochiflaa
