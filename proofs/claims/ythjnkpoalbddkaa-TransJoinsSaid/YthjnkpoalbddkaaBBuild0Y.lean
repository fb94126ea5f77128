/- Build: a made machine in memory; what the run is told; the maps while they are filled. -/
import Derived.Test.YthjnkpoalbddkaaMSMem3Y
import Derived.Test.YthjnkpoalbddkaaMSRun0Y
import Derived.Test.YthjnkpoalbddkaaBStepY
namespace Go.Proofs.Ythjnkpoalbddkaa.MS
open Go.RowKit Go.Maps Go.WideMaps
section
variable {W : World} {B bk : Nat} {m : Mk St} {vn vp ve vt va : Value} {gno gtx : Nat} {D1 D2 : DataW Unit} {RN RP : Nat → Nat}
theorem rows_of {v : Value} {A : Option Addr} {c : Nat} {rows : List (List Int)} {R : Nat → Nat} (h : RowsM W B v ve rows R) (hv : v = .slice A rows.length c) (hn : rows.length ≤ 2000) : RowsIn W A rows.length rows (fun i => some ⟨R i, 0, none⟩) (fun _ => 256) := by
  subst hv
  refine ⟨rfl, by omega, fun hp => ?_, fun k hk hp => ?_, fun k hk => ?_⟩
  · obtain ⟨b, off, e, hl, hc⟩ := Arr.of_own h.own hp
    refine ⟨b, off, e, hl, fun k j hk hj => ?_⟩
    rw [hc k j hk hj]
    unfold RowC slV
    rw [h.len k hk]
    simp [hk]
  · refine ⟨R k, 0, rfl, (h.blk k hk).2.1.lt, fun j i hj hi => ?_⟩
    obtain rfl : i = 0 := by omega
    rw [(h.blk k hk).2.1.cell]
    unfold NumC numsV
    simp at hj
    simp [List.getElem?_eq_getElem hj]
  · have := h.len k hk
    omega
theorem MkIn.mach {A0 A1 A2 A3 : Option Addr} {c0 c1 c2 c3 : Nat} (h : MkIn W B bk m vn vp ve vt va gno gtx D1 D2 RN RP) (h0 : vn = .slice A0 m.next.length c0) (h1 : vp = .slice A1 m.put.length c1) (h2 : ve = .slice A2 m.ends.length c2) (h3 : vt = .slice A3 m.texts.length c3)
    (l0 : m.next.length ≤ 2000) (l1 : m.put.length ≤ 2000) (l2 : m.ends.length ≤ 2000) (l3 : m.texts.length ≤ 10000) :
    MachIn W A0 A1 A2 A3 m.next.length m.put.length m.ends.length m.texts.length m.mach (fun i => some ⟨RN i, 0, none⟩) (fun _ => 256) (fun i => some ⟨RP i, 0, none⟩) (fun _ => 256) := by
  subst h2 h3
  refine ⟨rows_of h.nx h0 l0, rows_of h.pt h1 l1, rfl, by omega, own_ints h.oe, by simp [Mk.mach], by omega, fun hp => ?_⟩
  obtain ⟨b, off, e, hl, hc⟩ := Arr.of_own h.ot hp
  refine ⟨b, off, e, hl, fun k j hk hj => ?_⟩
  rw [hc k j hk hj]
  unfold StrC Mk.mach txV
  simp [List.getElem?_eq_getElem hk]
end
end Go.Proofs.Ythjnkpoalbddkaa.MS
namespace Go.Proofs.Ythjnkpoalbddkaa
open Go.RowKit Go.Maps Go.WideMaps
section
variable {w0 : World} {l : List SR} {A : Option Addr} {n c : Nat} {bo bt br gr go gt ko kt B : Nat} {Do Dt : DataW Unit}
theorem build_env (hw : w0.heap.size ≤ B) (h1 : bo < B) (h2 : bt < B) (h3 : br < B) (h4 : go < B) (h5 : gt < B) (h6 : gr < B) (hok : AllOk l) :
    MS.Env 58 59 B (fun _ W => BCtx w0 l A n c bo bt br go gt ko kt Do Dt W ∧ Blk W gr 42 MS.z4) [.pointer (some ⟨bo, 0, none⟩), .pointer (some ⟨bt, 0, none⟩)] [.pointer (some ⟨br, 0, none⟩)]
      (stepB (rulesOf l)) (finB (rulesOf l)) (OpenW (rulesOf l)) (fun _ _ => false) (fun _ => false) := by
  have h16 : ∀ r ∈ rulesOf l, r.1.length ≤ 16 := fun r hr => by
    obtain ⟨k, hk, rfl⟩ := mem_rulesOf.mp hr
    have := (hok.2 k hk).few
    rw [size_data]; exact this
  have h32 : ∀ r ∈ rulesOf l, r.2.length ≤ 32 := fun r hr => by
    obtain ⟨k, hk, rfl⟩ := mem_rulesOf.mp hr
    have := (hok.2 k hk).few2
    rw [size_data]; exact this
  refine ⟨fun fl W W' hc hB hbt => ⟨hc.1.but hbt (fun k hk => ⟨by omega, by omega, by omega, by omega, by omega, by omega⟩), hbt.blk hc.2 (by omega)⟩, fun fl W s ch hc hB hs => ?_, fun fl W s hc hB hs => ?_, fun s ch _ => stepB_open hok.fit s ch, fun s hs => by have := open_len h16 hs; omega, fun s ch hs => by have := stepB_len hok.fit h16 h32 hs ch; omega, fun s hs => by have := finB_len hok.fit h16 h32 hs; omega⟩
  · refine (bstep_any w0 l A n c bo bt br go gt ko kt Do Dt W hc.1 s hs ch).mono ?_
    rintro e W' ⟨he, hb⟩
    exact ⟨he, (But.of_below hb).mono (fun k hk e9 => by omega), hc.1.go' hb, hc.2.below hb hc.2.lt⟩
  · refine (bend_any w0 l A n c bo bt br go gt ko kt Do Dt W hc.1 s hs).mono ?_
    rintro e W' ⟨he, hb⟩
    exact ⟨he, (But.of_below hb).mono (fun k hk e9 => by omega), hc.1.go' hb, hc.2.below hb hc.2.lt⟩
end
/-- the texts that are open by the first k rules, and by j bytes of the next one -/
def openS (l : List SR) (k j : Nat) (x : Bs) : Prop := x = [] ∨ (∃ i, i < k ∧ x.length < (l.getD i noRule).1.data.toList.length ∧ x <+: (l.getD i noRule).1.data.toList) ∨ (x.length < j ∧ x <+: (l.getD k noRule).1.data.toList)
theorem openS_start {x : Bs} {l : List SR} : (x = [] ∨ False) ↔ openS l 0 1 x := by
  unfold openS
  constructor
  · rintro (h | h)
    · exact .inl h
    · exact h.elim
  · rintro (h | ⟨i, hi, _⟩ | ⟨h, _⟩)
    · exact .inl h
    · omega
    · exact .inl (List.eq_nil_of_length_eq_zero (by omega))
theorem openS_put {l : List SR} {k j : Nat} (hj : j < (l.getD k noRule).1.data.toList.length) (x : Bs) : (x = (l.getD k noRule).1.data.toList.take j ∨ openS l k j x) ↔ openS l k (j + 1) x := by
  unfold openS
  constructor
  · rintro (h | h | h | ⟨h1, h2⟩)
    · right; right
      rw [h]
      exact ⟨by rw [List.length_take]; omega, List.take_prefix _ _⟩
    · exact .inl h
    · exact .inr (.inl h)
    · exact .inr (.inr ⟨by omega, h2⟩)
  · rintro (h | h | ⟨h1, h2⟩)
    · exact .inr (.inl h)
    · exact .inr (.inr (.inl h))
    · by_cases e : x.length = j
      · left
        have := List.prefix_iff_eq_take.1 h2
        rw [e] at this
        exact this
      · exact .inr (.inr (.inr ⟨by omega, h2⟩))
theorem openS_next {l : List SR} {k j : Nat} (hj : (l.getD k noRule).1.data.toList.length ≤ j) (hj2 : j = (l.getD k noRule).1.data.toList.length ∨ j = 1) (x : Bs) : openS l k j x ↔ openS l (k + 1) 1 x := by
  unfold openS
  constructor
  · rintro (h | ⟨i, h1, h2⟩ | ⟨h1, h2⟩)
    · exact .inl h
    · exact .inr (.inl ⟨i, by omega, h2⟩)
    · rcases hj2 with e | e
      · exact .inr (.inl ⟨k, by omega, by omega, h2⟩)
      · exact .inl (List.eq_nil_of_length_eq_zero (by omega))
  · rintro (h | ⟨i, h1, h2, h3⟩ | ⟨h1, h2⟩)
    · exact .inl h
    · by_cases e : i = k
      · subst e; exact .inr (.inr ⟨by omega, h3⟩)
      · exact .inr (.inl ⟨i, by omega, h2, h3⟩)
    · exact .inl (List.eq_nil_of_length_eq_zero (by omega))
theorem openS_all {l : List SR} (x : Bs) : openS l l.length 1 x ↔ OpenW (rulesOf l) x := by
  unfold openS OpenW
  constructor
  · rintro (h | ⟨i, h1, h2, h3⟩ | ⟨h1, h2⟩)
    · exact .inl h
    · exact .inr ⟨_, mem_rulesOf.2 ⟨i, h1, rfl⟩, h2, h3⟩
    · exact .inl (List.eq_nil_of_length_eq_zero (by omega))
  · rintro (h | ⟨r, hr, h2, h3⟩)
    · exact .inl h
    · obtain ⟨i, hi, rfl⟩ := mem_rulesOf.1 hr
      exact .inr (.inl ⟨i, hi, h2, h3⟩)
/-- while the maps are filled -/
structure BL (w0 : World) (l : List SR) (A : Option Addr) (n c : Nat) (bo bt br gr go gt k j kk ko kt : Nat) (Do Dt : DataW Unit) (W : World) : Prop where
  bel : Below w0.heap.size w0 W
  xo : Blk W bo 93 [.map (some go)]
  xt : Blk W bt 60 [.map (some gt)]
  xr : Blk W br 22 [.slice A n c]
  xg : Blk W gr 42 MS.z4
  mo : W.ownsMap Try.prog 9 (plainElem Try.prog 4) go ko Do
  mt : W.ownsMap Try.prog 9 (plainElem Try.prog 9) gt kt Dt
  opn : Opn Do (openS l k j)
  tel : Tells Dt (toF l kk)
  lgo : w0.heap.size ≤ go
  lgt : w0.heap.size ≤ gt
  ne : go ≠ gt
  kol : ko ≤ 1 + 17 * k + j
  ktl : kt ≤ kk
section
variable {w0 : World} {l : List SR} {A : Option Addr} {n c : Nat} {bo bt br gr go gt k j kk ko kt : Nat} {Do Dt D' : DataW Unit} {W W' : World}
theorem BL.go' (h : BL w0 l A n c bo bt br gr go gt k j kk ko kt Do Dt W) (hw : Below W.heap.size W W') : BL w0 l A n c bo bt br gr go gt k j kk ko kt Do Dt W' := by
  have hb := But.of_below hw
  have e : ∀ k, k < W.heap.size → ¬ W.heap.size ≤ k := fun k hk => by omega
  exact ⟨h.bel.trans (hw.mono h.bel.size), hb.blk h.xo (e _ h.xo.lt), hb.blk h.xt (e _ h.xt.lt), hb.blk h.xr (e _ h.xr.lt), hb.blk h.xg (e _ h.xg.lt), hb.maps h.mo (e _ h.mo.lt), hb.maps h.mt (e _ h.mt.lt), h.opn, h.tel, h.lgo, h.lgt, h.ne, h.kol, h.ktl⟩
theorem BL.putT (h : BL w0 l A n c bo bt br gr go gt k j kk ko kt Do Dt W) (hg : W.grownBy W' (some gt)) (hm : W'.ownsMap Try.prog 9 (plainElem Try.prog 9) gt (kt + 1) D') (ht : Tells D' (toF l (kk + 1))) : BL w0 l A n c bo bt br gr go gt k j (kk + 1) ko (kt + 1) Do D' W' := by
  have hb := But.of_grown hg
  have e : ∀ {k}, k ≠ gt → ¬ some gt = some k := fun hk e9 => hk (by injection e9 with e9; exact e9.symm)
  exact ⟨h.bel.trans (hb.below h.bel.size (fun k hk => by injection hk with hk; rw [← hk]; exact h.lgt)), hb.blk h.xo (e (map_blk_ne h.mt h.xo).symm), hb.blk h.xt (e (map_blk_ne h.mt h.xt).symm), hb.blk h.xr (e (map_blk_ne h.mt h.xr).symm), hb.blk h.xg (e (map_blk_ne h.mt h.xg).symm), hb.maps h.mo (e h.ne), hm, h.opn, ht, h.lgo, h.lgt, h.ne, h.kol, by have := h.ktl; omega⟩
theorem BL.putO (h : BL w0 l A n c bo bt br gr go gt k j kk ko kt Do Dt W) (hg : W.grownBy W' (some go)) (hm : W'.ownsMap Try.prog 9 (plainElem Try.prog 4) go (ko + 1) D') (ht : Opn D' (openS l k (j + 1))) : BL w0 l A n c bo bt br gr go gt k (j + 1) kk (ko + 1) kt D' Dt W' := by
  have hb := But.of_grown hg
  have e : ∀ {k}, k ≠ go → ¬ some go = some k := fun hk e9 => hk (by injection e9 with e9; exact e9.symm)
  exact ⟨h.bel.trans (hb.below h.bel.size (fun k hk => by injection hk with hk; rw [← hk]; exact h.lgo)), hb.blk h.xo (e (map_blk_ne h.mo h.xo).symm), hb.blk h.xt (e (map_blk_ne h.mo h.xt).symm), hb.blk h.xr (e (map_blk_ne h.mo h.xr).symm), hb.blk h.xg (e (map_blk_ne h.mo h.xg).symm), hm, hb.maps h.mt (e h.ne.symm), ht, h.tel, h.lgo, h.lgt, h.ne, by have := h.kol; omega, h.ktl⟩
theorem BL.next (h : BL w0 l A n c bo bt br gr go gt k j (k + 1) ko kt Do Dt W) (hj : (l.getD k noRule).1.data.toList.length ≤ j) (hj2 : j = (l.getD k noRule).1.data.toList.length ∨ j = 1) (hl : j ≤ 17) : BL w0 l A n c bo bt br gr go gt (k + 1) 1 (k + 1) ko kt Do Dt W :=
  ⟨h.bel, h.xo, h.xt, h.xr, h.xg, h.mo, h.mt, opn_mono h.opn (openS_next hj hj2), h.tel, h.lgo, h.lgt, h.ne, by have := h.kol; omega, h.ktl⟩
theorem BL.ctx (h : BL w0 l A n c bo bt br gr go gt n 1 n ko kt Do Dt W) (harr : Arr w0 w0.heap.size 2 A n (RuleC l)) (hl : l.length = n) (hok : AllOk l) : BCtx w0 l A n c bo bt br go gt ko kt Do Dt W := by
  subst hl
  exact ⟨h.bel, harr, rfl, hok, h.xo, h.xt, h.xr, h.mo, h.mt, opn_mono h.opn openS_all, h.tel⟩
end
end Go.Proofs.Ythjnkpoalbddkaa
