/- What a hash tells of a key: the program's and the reference's functions answer the same. -/
import Derived.Test.YtgejpggbmgiocaaHPlace
namespace Go.Proofs.Ytgejpggbmgiocaa
open Go.RowKit

set_option maxHeartbeats 1000000 in
theorem get_any (A0 A1 A2 : Option Addr) (n0 n1 n2 c0 c1 c2 : Nat) (S K V : List Int) (key : Int) (w : World) (hS : S.length = n0) (hK : K.length = n1) (hV : V.length = n2) (hn0 : n0 ≤ 140737488355328) (hn1 : n1 ≤ 140737488355328) (hn2 : n2 ≤ 140737488355328)
    (hu : Under 4294967296 S)
    (h0 : Arr w w.heap.size 1 A0 n0 (NumC .u32 S)) (h1 : Arr w w.heap.size 1 A1 n1 (NumC .u64 K)) (h2 : Arr w w.heap.size 1 A2 n2 (NumC .u64 V)) :
    Calls Try.prog 15 #[.agg #[.slice A0 n0 c0, .slice A1 n1 c1, .slice A2 n2 c2], .int .u64 key] w fun e w' => e = .returned (.tuple #[.int .u64 (hashGet mix S K V key).1, .bool (hashGet mix S K V key).2]) ∧ Below w.heap.size w w' := by
  have hbox : ∀ o, Below w.heap.size w (w.alloc o) := fun o => (Below.refl w.heap.size w).alloc (Nat.le_refl _) o
  by_cases hz : n1 = 0
  · rw [get_none mix S K V key (.inl (by omega))]
    subst hz
    go_enter Try.func15, Try.ntmps15
    go_wp2
    go_ret2
    exact ⟨rfl, hbox _⟩
  by_cases hne : n2 = n1
  · obtain rfl : n1 = n2 := hne.symm
    obtain ⟨p, hp⟩ := place_nat mix S K key (by omega)
    have hpl := fun W => place_any A0 A1 (.slice A2 n1 c2) n0 n1 c0 c1 S K key W hS hK hn0 hn1 (by omega) hu
    rw [hp] at hpl
    have hb1 := hbox (.cells #[.slice A0 n0 c0, .slice A1 n1 c1, .slice A2 n1 c2] 25)
    have h0' := (h0.below hb1).more hb1.size
    have h1' := (h1.below hb1).more hb1.size
    have HP := Lib.hid hpl
    have HQ := Lib.hid hp
    have HA1 := Lib.hid h1
    have HA2 := Lib.hid h2
    clear hpl hp h1 h2 h0
    go_enter Try.func15, Try.ntmps15
    go_wp2_with fail
    refine (HP.out _ h0' h1').mono ?_
    rintro e w1 ⟨rfl, hb2⟩
    have hsz := size_new hb2
    have q0 := kept_new hb2 0
    have q1 := kept_new hb2 1
    have q2 := kept_new hb2 2
    have hB := below_new (Below.refl w.heap.size w) (Nat.le_refl _) hb2
    simp only [List.getElem?_toArray, List.getElem?_cons_zero, List.getElem?_cons_succ] at q0 q1 q2
    by_cases hpn : p < n1
    · obtain ⟨b1, o1, rfl, _, hc1⟩ := (HA1.out.below hB).one hpn
      obtain ⟨b2, o2, rfl, _, hc2⟩ := (HA2.out.below hB).one hpn
      unfold NumC at hc1 hc2
      obtain ⟨x, hx⟩ : ∃ x, x = K.getD p 0 := ⟨_, rfl⟩
      obtain ⟨y, hy⟩ : ∃ y, y = V.getD p 0 := ⟨_, rfl⟩
      rw [← hx] at hc1
      rw [← hy] at hc2
      by_cases hxk : x = key
      · subst hxk
        have HG := Lib.hid (get_hit mix S K V x p HQ.out (by omega) (by omega) hx.symm)
        rw [← hy] at HG
        clear hx hy
        go_wp2
        go_ret2
        rw [HG.out]
        exact ⟨rfl, hB⟩
      · have HG := Lib.hid (get_other mix S K V key p HQ.out (by rw [← hx]; exact hxk))
        clear hx hy
        have hbe : (x == key) = false := by simpa using hxk
        have hbe' : (x != key) = true := by simpa using hxk
        go_wp2
        go_ret2
        rw [HG.out]
        exact ⟨rfl, hB⟩
    · have HG := Lib.hid (get_off mix S K V key p HQ.out (by omega))
      go_wp2
      go_ret2
      rw [HG.out]
      exact ⟨rfl, hB⟩
  · rw [get_none mix S K V key (.inr (by omega))]
    have hbe : ((n2 : Int) == (n1 : Int)) = false := by rw [beq_eq_false_iff_ne]; omega
    have hbe' : ((n2 : Int) != (n1 : Int)) = true := by rw [bne_iff_ne]; omega
    go_enter Try.func15, Try.ntmps15
    go_wp2
    go_ret2
    exact ⟨rfl, hbox _⟩
set_option maxHeartbeats 1000000 in
theorem rget_any (A0 A1 A2 : Option Addr) (n0 n1 n2 c0 c1 c2 : Nat) (S K V : List Int) (key : Int) (w : World) (hS : S.length = n0) (hK : K.length = n1) (hV : V.length = n2) (hn0 : n0 ≤ 140737488355328) (hn1 : n1 ≤ 140737488355328) (hn2 : n2 ≤ 140737488355328)
    (hu : Under 4294967296 S)
    (h0 : Arr w w.heap.size 1 A0 n0 (NumC .u32 S)) (h1 : Arr w w.heap.size 1 A1 n1 (NumC .u64 K)) (h2 : Arr w w.heap.size 1 A2 n2 (NumC .u64 V)) :
    Calls Try.prog 18 #[.agg #[.slice A0 n0 c0, .slice A1 n1 c1, .slice A2 n2 c2], .int .u64 key] w fun e w' => e = .returned (.tuple #[.int .u64 (hashGet mix S K V key).1, .bool (hashGet mix S K V key).2]) ∧ Below w.heap.size w w' := by
  have hbox : ∀ o, Below w.heap.size w (w.alloc o) := fun o => (Below.refl w.heap.size w).alloc (Nat.le_refl _) o
  by_cases hz : n1 = 0
  · rw [get_none mix S K V key (.inl (by omega))]
    subst hz
    go_enter Try.func18, Try.ntmps18
    go_wp2
    go_ret2
    exact ⟨rfl, hbox _⟩
  by_cases hne : n2 = n1
  · obtain rfl : n1 = n2 := hne.symm
    obtain ⟨p, hp⟩ := place_nat mix S K key (by omega)
    have hpl := fun W => rplace_any A0 A1 (.slice A2 n1 c2) n0 n1 c0 c1 S K key W hS hK hn0 hn1 (by omega) hu
    rw [hp] at hpl
    have hb1 := hbox (.cells #[.slice A0 n0 c0, .slice A1 n1 c1, .slice A2 n1 c2] 25)
    have h0' := (h0.below hb1).more hb1.size
    have h1' := (h1.below hb1).more hb1.size
    have HP := Lib.hid hpl
    have HQ := Lib.hid hp
    have HA1 := Lib.hid h1
    have HA2 := Lib.hid h2
    clear hpl hp h1 h2 h0
    go_enter Try.func18, Try.ntmps18
    go_wp2_with fail
    refine (HP.out _ h0' h1').mono ?_
    rintro e w1 ⟨rfl, hb2⟩
    have hsz := size_new hb2
    have q0 := kept_new hb2 0
    have q1 := kept_new hb2 1
    have q2 := kept_new hb2 2
    have hB := below_new (Below.refl w.heap.size w) (Nat.le_refl _) hb2
    simp only [List.getElem?_toArray, List.getElem?_cons_zero, List.getElem?_cons_succ] at q0 q1 q2
    by_cases hpn : p < n1
    · obtain ⟨b1, o1, rfl, _, hc1⟩ := (HA1.out.below hB).one hpn
      obtain ⟨b2, o2, rfl, _, hc2⟩ := (HA2.out.below hB).one hpn
      unfold NumC at hc1 hc2
      obtain ⟨x, hx⟩ : ∃ x, x = K.getD p 0 := ⟨_, rfl⟩
      obtain ⟨y, hy⟩ : ∃ y, y = V.getD p 0 := ⟨_, rfl⟩
      rw [← hx] at hc1
      rw [← hy] at hc2
      by_cases hxk : x = key
      · subst hxk
        have HG := Lib.hid (get_hit mix S K V x p HQ.out (by omega) (by omega) hx.symm)
        rw [← hy] at HG
        clear hx hy
        go_wp2
        go_ret2
        rw [HG.out]
        exact ⟨rfl, hB⟩
      · have HG := Lib.hid (get_other mix S K V key p HQ.out (by rw [← hx]; exact hxk))
        clear hx hy
        have hbe : (x == key) = false := by simpa using hxk
        have hbe' : (x != key) = true := by simpa using hxk
        go_wp2
        go_ret2
        rw [HG.out]
        exact ⟨rfl, hB⟩
    · have HG := Lib.hid (get_off mix S K V key p HQ.out (by omega))
      go_wp2
      go_ret2
      rw [HG.out]
      exact ⟨rfl, hB⟩
  · rw [get_none mix S K V key (.inr (by omega))]
    have hbe : ((n2 : Int) == (n1 : Int)) = false := by rw [beq_eq_false_iff_ne]; omega
    have hbe' : ((n2 : Int) != (n1 : Int)) = true := by rw [bne_iff_ne]; omega
    go_enter Try.func18, Try.ntmps18
    go_wp2
    go_ret2
    exact ⟨rfl, hbox _⟩
end Go.Proofs.Ytgejpggbmgiocaa
