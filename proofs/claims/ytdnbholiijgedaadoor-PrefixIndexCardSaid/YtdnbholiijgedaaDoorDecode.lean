/-
  unicode/utf8.DecodeRune, by the shelf's contract; the two tables that it reads. No condition but that they are laid.
-/
import Derived.Test.YtdnbholiijgedaaDoorText
import Derived.Test.YtdnbholiijgedaaDoorRows
import Derived.Shelf.Spec.DecodeRune
import Derived.Lib.LaidU8T
import Derived.Lib.RuneCountTail
import Derived.PinnedBridge
namespace Go.Proofs.YtdnbholiijgedaaDoor
open Go.RowKit Go.Shelf
set_option linter.unusedVariables false
set_option maxRecDepth 100000

def layDecNums : Go.Shelf.Ren := ⟨fun | 32 => 33 | 49 => 45 | n => n, fun | 0 => 0 | 3 => 3 | 4 => 4 | 5 => 5 | 21 => 21 | 25 => 88 | 30 => 35 | 33 => 72 | 66 => 87 | 68 => 90 | 69 => 91 | 119 => 87 | 138 => 90 | 139 => 91 | n => n, fun | 2 => 0 | 3 => 1 | n => n⟩
theorem layDec : Lays7.n32 Tryd.prog layDecNums := {
  mixed := by kernel_rfl
  f32 := Tryd.func33.trans (congrArg some (by kernel_rfl))
  f49 := Tryd.func45.trans (congrArg some (by kernel_rfl))
  t0 := Tryd.underlying0
  a0 := Tryd.isAgg0
  z0 := Tryd.sizeOf0
  v0 := Tryd.zeroValue0
  i0 := by kernel_rfl
  t3 := Tryd.underlying3
  a3 := Tryd.isAgg3
  z3 := Tryd.sizeOf3
  v3 := Tryd.zeroValue3
  i3 := by kernel_rfl
  t4 := Tryd.underlying4
  a4 := Tryd.isAgg4
  z4 := Tryd.sizeOf4
  v4 := Tryd.zeroValue4
  i4 := by kernel_rfl
  t5 := Tryd.underlying5
  a5 := Tryd.isAgg5
  z5 := Tryd.sizeOf5
  v5 := Tryd.zeroValue5
  i5 := by kernel_rfl
  t21 := Tryd.underlying21
  a21 := Tryd.isAgg21
  z21 := Tryd.sizeOf21
  v21 := Tryd.zeroValue21
  i21 := by kernel_rfl
  t25 := Tryd.underlying88
  a25 := Tryd.isAgg88
  z25 := Tryd.sizeOf88
  v25 := Tryd.zeroValue88
  i25 := by kernel_rfl
  t30 := Tryd.underlying35
  a30 := Tryd.isAgg35
  z30 := Tryd.sizeOf35
  v30 := Tryd.zeroValue35
  i30 := by kernel_rfl
  t33 := Tryd.underlying72
  a33 := Tryd.isAgg72
  z33 := Tryd.sizeOf72
  v33 := Tryd.zeroValue72
  i33 := by kernel_rfl
  t66 := Tryd.underlying87
  a66 := Tryd.isAgg87
  z66 := Tryd.sizeOf87
  t68 := Tryd.underlying90
  a68 := Tryd.isAgg90
  z68 := Tryd.sizeOf90
  v68 := Tryd.zeroValue90
  i68 := by kernel_rfl
  t69 := Tryd.underlying91
  a69 := Tryd.isAgg91
  z69 := Tryd.sizeOf91
  v69 := Tryd.zeroValue91
  i69 := by kernel_rfl
  g2 := by kernel_rfl
  g3 := by kernel_rfl }

/-- The two tables stand. -/
def Tabs (w : World) : Prop := Lib.Utf8Tabs 0 1 w
/-- The same two tables under the numbers by which the bridge knows them. -/
def layTabNums : Go.Shelf.Ren := ⟨fun n => n, fun | 5 => 5 | 119 => 87 | 138 => 90 | 139 => 91 | n => n, fun | 3 => 0 | 4 => 1 | n => n⟩
theorem tabs_of {w : World} (h3 : Lib.VarReads Tryd.prog w "unicode/utf8.first" Lib.firstData) (h4 : Lib.VarReads Tryd.prog w "unicode/utf8.acceptRanges" Lib.acceptData) : Tabs w :=
  utf8Tabs_of_readsT (ρ := layTabNums) ⟨Tryd.underlying5, Tryd.underlying87, Tryd.underlying90, Tryd.underlying91⟩ ⟨by kernel_rfl, by kernel_rfl, by kernel_rfl, by kernel_rfl, by kernel_rfl, by kernel_rfl, by kernel_rfl⟩ h3 h4
theorem Tabs.below {w w' : World} (h : Tabs w) (hb : Below w.heap.size w w') : Tabs w' := by
  have hl : ∀ {p : Addr} {v : Value}, w.cell? p = some v → w'.cell? p = some v := fun {p v} hc => (hb.cell (World.block_lt_of_cell? w p hc)).trans hc
  exact ⟨fun c hc => hl (h.1 c hc), fun i hi => ⟨hl (h.2 i hi).1, hl (h.2 i hi).2⟩⟩
theorem pinFirst : Rows.laid_unicode_utf8_first = Lib.firstData := Pinned.utf8First_eq
theorem accData : Rows.laid_unicode_utf8_acceptRanges = Lib.acceptData := by kernel_rfl

/-- One rune, decoded from a place inside a text. -/
theorem decodeRune_any (ok : Nat → Prop) (w : World) (A : Addr) (c : Nat) (s : ByteArray) (pos : Nat) (h : TextC ok w (some A) s) (hp : pos < s.size) (hT : Tabs w) :
    Calls Tryd.prog 33 #[.slice (some (A.add pos)) (s.size - pos) c] w fun e w' => e = .returned (.tuple #[.int .i32 (Utf8.decode s pos).1, .int .i64 (Utf8.decode s pos).2]) ∧ Below w.heap.size w w' := by
  have hcell : ∀ j, j < s.size → w.cell? (A.add j) = some (.int .u8 (s.get! j).toNat) := fun j hj => by
    have hjl : j < s.data.toList.length := by rw [text_len]; exact hj
    obtain ⟨ad, cs, he, _, hcs, _, hc⟩ := h j _ (List.getElem?_eq_getElem hjl)
    injection he with he
    subst he
    rw [hcs] at hc
    have := hc 0 _ rfl
    rw [Nat.mul_one, Nat.add_zero] at this
    rw [this]
    have hsz : j < s.data.size := hj
    show some (Value.int .u8 (s.data.toList[j].toNat : Int)) = some (Value.int .u8 (s.data[j]!.toNat : Int))
    rw [getElem!_pos s.data j hsz, Array.getElem_toList]
  obtain ⟨b, off, sp⟩ := A
  have hsp : sp = none := by
    have h0 := hcell 0 (by omega)
    rw [show (⟨b, off, sp⟩ : Addr).add 0 = ⟨b, off, sp⟩ by simp [Addr.add]] at h0
    unfold World.cell? at h0
    split at h0
    · cases sp with
      | none => rfl
      | some k => simp at h0
    · cases h0
  subst hsp
  have hadd : ∀ n, (⟨b, off, none⟩ : Addr).add n = ⟨b, off + n, none⟩ := fun n => by unfold Addr.add; split <;> simp_all
  have hsz : (s.extract pos s.size).size = s.size - pos := by simp
  have hd : Lib.decodeGo (s.extract pos s.size) = Utf8.decode s pos := by
    unfold Lib.decodeGo
    rw [if_neg (by rw [hsz]; omega), Lib.tail_decode, Nat.add_zero]
  have hc := Any7.utf8_DecodeRune layDec (s.extract pos s.size) b (off + pos) c w hT (fun j hj => by
    rw [hsz] at hj
    have h1 := hcell (pos + j) (by omega)
    rw [hadd] at h1
    rw [Nat.add_assoc, h1, Lib.tail_get!])
  rw [hd, hsz] at hc
  rw [hadd]
  exact hc
end Go.Proofs.YtdnbholiijgedaaDoor
