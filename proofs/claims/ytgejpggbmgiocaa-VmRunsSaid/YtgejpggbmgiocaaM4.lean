/- VPlain, TPl of this seat, in one text. -/
import Derived.Test.YtgejpggbmgiocaaM3
import Derived.Test.YtgejpggbmgiocaaM1
import Derived.Laws.IdiomStrings
/- A run of the machine: its state, and what an instruction does: plain. -/
namespace Go.Proofs.Ytgejpggbmgiocaa

abbrev Bs := List UInt8
structure Ins where
  op : Int
  a : Int
  b : Int
  c : Int
  d : Int
structure Tbl where
  cols : Int
  data : List Int
structure Prog where
  grow : Int
  rest : Int
  extra : Int
  signs : Int
  code : List Ins
  tabs : List Tbl
  texts : List ByteArray
structure St where
  regs : List Int
  marks : List Nat
  src : Bs
  here : Nat
  put : Bs
  signs : List Int
  told : List Int
  pc : Int
  used : Nat
def noIns : Ins := ⟨0, 0, 0, 0, 0⟩
def noTbl : Tbl := ⟨0, []⟩
def St.reg (s : St) (i : Int) : Int := s.regs.getD i.toNat 0
def St.setReg (s : St) (i : Int) (x : Int) : St := { s with regs := s.regs.set i.toNat x }
def isReg (x : Int) : Bool := decide (0 ≤ x ∧ x < 8)
def isB (x : Int) : Bool := decide (0 ≤ x ∧ x < 256)
def fitsF (i : Ins) : Bool :=
  if i.op = 1 ∨ i.op = 4 ∨ i.op = 14 ∨ i.op = 16 then true
  else if i.op = 9 ∨ i.op = 10 ∨ i.op = 11 then decide (0 ≤ i.a ∧ i.a < 2)
  else if i.op = 3 ∨ i.op = 8 ∨ i.op = 13 then isReg i.b && isReg i.a
  else if i.op = 2 ∨ i.op = 5 ∨ i.op = 6 ∨ i.op = 7 ∨ i.op = 12 ∨ i.op = 15 ∨ i.op = 17 then isReg i.a
  else false
/-- where a look finds its number -/
def cellF (p : Prog) (s : St) (i : Ins) : Option Nat :=
  if i.d < 0 ∨ (p.tabs.length : Int) ≤ i.d then none
  else
    let t := p.tabs.getD i.d.toNat noTbl
    if t.cols < 1 then none
    else if s.reg i.a < 0 ∨ ((t.data.length : Int) / t.cols) ≤ s.reg i.a ∨ s.reg i.b < 0 ∨ t.cols ≤ s.reg i.b then none
    else some (s.reg i.a * t.cols + s.reg i.b).toNat
/-- the text that an instruction puts -/
def textF (p : Prog) (s : St) (i : Ins) : Bs :=
  (p.texts.getD (s.reg i.a / 2).toNat ⟨#[]⟩).data.toList ++ if s.reg i.a % 2 = 1 then [UInt8.ofNat (s.reg i.b).toNat] else []
def textOk (p : Prog) (s : St) (i : Ins) : Prop := 0 ≤ s.reg i.a ∧ s.reg i.a / 2 < (p.texts.length : Int) ∧ (s.reg i.a % 2 = 1 → isB (s.reg i.b) = true)
instance (p : Prog) (s : St) (i : Ins) : Decidable (textOk p s i) := by unfold textOk; infer_instance
/-- how the run ends ahead of an instruction, if it does; else what it costs -/
def costF (p : Prog) (room : Int) (s : St) (i : Ins) : Nat ⊕ Nat :=
  if fitsF i = false then .inl 3
  else if i.op = 8 then (if cellF p s i = none then .inl 3 else .inr 1)
  else if i.op = 12 then (if isB (s.reg i.a) = false then .inl 3 else if 262144 ≤ s.put.length then .inl 1 else .inr 1)
  else if i.op = 13 then (if ¬ textOk p s i then .inl 3 else if 262144 < s.put.length + (textF p s i).length then .inl 1 else .inr (1 + (textF p s i).length))
  else if i.op = 15 then (if s.reg i.a < 0 ∨ min p.signs 65536 ≤ s.reg i.a then .inl 3 else if 262144 ≤ s.signs.length then .inl 1 else .inr 1)
  else if i.op = 17 then (if room ≤ (s.told.length : Int) then .inl 1 else .inr 1)
  else if i.op = 16 then .inr (1 + 4 * s.signs.length)
  else .inr 1
/-- what is done once it is paid; merging is left open -/
def doF (mg : List Int → Option (List Int)) (p : Prog) (room : Int) (s : St) (i : Ins) : St × Option Nat :=
  if i.op = 1 then (s, some 0)
  else if i.op = 2 then (s.setReg i.a i.b, none)
  else if i.op = 3 then (s.setReg i.a (s.reg i.b), none)
  else if i.op = 4 then ({ s with pc := i.c }, none)
  else if i.op = 5 then (if s.reg i.a = i.b then { s with pc := i.c } else s, none)
  else if i.op = 6 then (if s.reg i.a < i.b then { s with pc := i.c } else s, none)
  else if i.op = 7 then (if s.src.length ≤ s.here then { s with pc := i.c } else { s.setReg i.a (s.src.getD s.here 0).toNat with here := s.here + 1 }, none)
  else if i.op = 8 then (s.setReg i.a ((p.tabs.getD i.d.toNat noTbl).data.getD ((cellF p s i).getD 0) 0), none)
  else if i.op = 9 then ({ s with marks := s.marks.set i.a.toNat s.here }, none)
  else if i.op = 10 then ({ s with here := s.marks.getD i.a.toNat 0 }, none)
  else if i.op = 11 then (if s.here = s.marks.getD i.a.toNat 0 then { s with pc := i.c } else s, none)
  else if i.op = 12 then ({ s with put := s.put ++ [UInt8.ofNat (s.reg i.a).toNat] }, none)
  else if i.op = 13 then ({ s with put := s.put ++ textF p s i }, none)
  else if i.op = 14 then ({ s with src := s.put, put := [], here := 0, marks := [0, 0] }, none)
  else if i.op = 15 then ({ s with signs := s.signs ++ [s.reg i.a] }, none)
  else if i.op = 17 then ({ s with told := s.told ++ [s.reg i.a] }, none)
  else match mg s.signs with
    | none => (s, some 3)
    | some l => if room < (s.told.length + l.length : Nat) then (s, some 1) else ({ s with told := s.told ++ l, signs := [] }, none)
/-- a step: the state behind it, and how the run ends, if it does -/
def stepF (mg : List Int → Option (List Int)) (p : Prog) (room fuel : Int) (s : St) : St × Option Nat :=
  if s.pc < 0 ∨ (p.code.length : Int) ≤ s.pc then (s, some 3)
  else
    let i := p.code.getD s.pc.toNat noIns
    match costF p room s i with
    | .inl e => (s, some e)
    | .inr c => if fuel - s.used < c then (s, some 1) else doF mg p room { s with used := s.used + c, pc := s.pc + 1 } i
end Go.Proofs.Ytgejpggbmgiocaa
/- Plain facts on the text that an instruction puts. -/
namespace Go.Proofs.Ytgejpggbmgiocaa
open Go.RowKit
def TxtC (l : List ByteArray) (k _ : Nat) : Value := .string (l.getD k ⟨#[]⟩)
/-- a program's texts in memory -/
structure TextsIn (w : World) (B : Nat) (prg : List Value) (texts : List ByteArray) : Prop where
  arr : ∃ A c, prg[6]? = some (.slice A texts.length c) ∧ Arr w B 1 A texts.length (TxtC texts)
  le : texts.length ≤ 140737488355328
  led : ∀ k, (texts.getD k ⟨#[]⟩).size ≤ 140737488355328
theorem textF_even (p : Prog) (s : St) (op a b c d rv : Int) (kt : Nat) (h1 : s.reg a = rv) (hm : rv % 2 = 0) (hk : rv / 2 = (kt : Int)) : textF p s ⟨op, a, b, c, d⟩ = (p.texts.getD kt ⟨#[]⟩).data.toList := by
  unfold textF
  simp only [h1]
  rw [if_neg (by omega), hk, Int.toNat_natCast, List.append_nil]
theorem textF_odd (p : Prog) (s : St) (op a b c d rv rb : Int) (kt : Nat) (h1 : s.reg a = rv) (h2 : s.reg b = rb) (hm : rv % 2 = 1) (hk : rv / 2 = (kt : Int)) : textF p s ⟨op, a, b, c, d⟩ = (p.texts.getD kt ⟨#[]⟩).data.toList ++ [UInt8.ofNat rb.toNat] := by
  unfold textF
  simp only [h1, h2]
  rw [if_pos hm, hk, Int.toNat_natCast]
theorem textOk_even (p : Prog) (s : St) (op a b c d rv : Int) (kt : Nat) (h1 : s.reg a = rv) (h0 : ¬ rv < 0) (hm : rv % 2 = 0) (hk : rv / 2 = (kt : Int)) (hn : kt < p.texts.length) : textOk p s ⟨op, a, b, c, d⟩ := by
  unfold textOk
  simp only [h1]
  exact ⟨by omega, by omega, fun h9 => by omega⟩
theorem textOk_odd (p : Prog) (s : St) (op a b c d rv rb : Int) (kt : Nat) (h1 : s.reg a = rv) (h2 : s.reg b = rb) (h0 : ¬ rv < 0) (hb : isB rb = true) (hk : rv / 2 = (kt : Int)) (hn : kt < p.texts.length) : textOk p s ⟨op, a, b, c, d⟩ := by
  unfold textOk
  simp only [h1, h2]
  exact ⟨by omega, by omega, fun _ => hb⟩
theorem data_len (t : ByteArray) : t.data.toList.length = t.size := Array.length_toList
theorem add_len (n c : Nat) (h : n ≤ 140737488355328) (hc : c = 1 + n) : wrap64 (1 + (n : Int)) = (c : Int) := by
  subst hc
  rw [IntWalk.wrap64_in (1 + (n : Int)) (by omega)]; omega
theorem put_len (m n : Nat) (h : n ≤ 140737488355328) (hm : m ≤ 262144) : wrap64 ((m : Int) + (n : Int)) = (m : Int) + (n : Int) :=
  IntWalk.wrap64_in _ (by omega)
theorem lt_put (a b : Nat) (h : (262144 : Int) < (a : Int) + (b : Int)) : 262144 < a + b := by omega
theorem le_put (a b : Nat) (h : ¬ (262144 : Int) < (a : Int) + (b : Int)) : ¬ 262144 < a + b := by omega
theorem isB_mod (x : Int) (h : true = isB x) : x % 256 = ((UInt8.ofNat x.toNat).toNat : Int) := by
  have h2 : 0 ≤ x ∧ x < 256 := by simpa [isB] using h.symm
  rw [UInt8.toNat_ofNat']
  omega
theorem byte_str (w : World) (x : Int) (h : true = isB x) : (convert 62 9 (.slice (some ⟨w.heap.size, 0, none⟩) 1 1)).run Try.prog ((w.alloc (.cells #[.int .u8 (x % 256)] 5)).drew) = .ok (.string ⟨#[UInt8.ofNat x.toNat]⟩) ((w.alloc (.cells #[.int .u8 (x % 256)] 5)).drew) := by
  have := Go.run_convert_bytes_back (P := Try.prog) ((w.alloc (.cells #[.int .u8 (x % 256)] 5)).drew) 62 9 5 ⟨w.heap.size, 0, none⟩ 1 [UInt8.ofNat x.toNat] Try.underlying62 Try.underlying5 Try.underlying9 (fun j hj => by
    have hj0 : j = 0 := by simpa using hj
    subst hj0
    rw [isB_mod x h]
    simp [Addr.add])
  exact this
theorem odd_text (t : ByteArray) (b : UInt8) : (t ++ ⟨#[b]⟩).data.toList = t.data.toList ++ [b] := by simp
theorem odd_size (t : ByteArray) (b : UInt8) (h : t.size ≤ 140737488355328) : (t ++ ⟨#[b]⟩).size ≤ 140737488355329 := by
  rw [← data_len, odd_text, List.length_append, data_len]
  simp
  omega
theorem cost_cast (n c : Nat) (h : c = 1 + n) : (1 + (n : Int)) = (c : Int) := by rw [h]; exact Int.natCast_add 1 _
end Go.Proofs.Ytgejpggbmgiocaa
