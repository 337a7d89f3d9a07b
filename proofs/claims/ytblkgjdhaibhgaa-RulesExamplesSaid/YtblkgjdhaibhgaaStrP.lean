/-
  Bytes and strings: a string as a list of bytes, bytes as cells. No condition of its own.
-/
import Derived.Test.YtblkgjdhaibhgaaBase
namespace Go.Proofs.Ytblkgjdhaibhgaa
open Go.RowKit

theorem T_u8s : SlT Try.prog 48 5 1 1 := by
  obtain ⟨i, h1, h2, h3, h4⟩ := info_parts (show (Try.prog.info? 5).map (fun i => (i.zero, i.size, i.bytes)) = some (some (.int .u8 0), 1, 1) from by kernel_rfl)
  exact ⟨Try.underlying48, ⟨i, _, h1, h2, h3, h4, rfl⟩, by omega⟩
theorem zero_u8 : (Try.prog.info? 5).bind (·.zero) = some (.int .u8 0) := by kernel_rfl
/-- Bytes as cells. -/
def u8s (l : List UInt8) : List Value := l.map fun x => Value.int .u8 (x.toNat : Int)
def U8Blk (w : World) (g : Nat) (l : List UInt8) : Prop := Blk w g 5 (u8s l).toArray
theorem U8Blk.set_ {w : World} {g : Nat} {l : List UInt8} (h : U8Blk w g l) (i : Nat) (x : UInt8) : U8Blk (w.setCell ⟨g, i, none⟩ (.int .u8 (x.toNat : Int))) g (l.set i x) := by
  have := Blk.set_ h i (.int .u8 (x.toNat : Int))
  unfold U8Blk
  rw [show (u8s (l.set i x)).toArray = (u8s l).toArray.setIfInBounds i (.int .u8 (x.toNat : Int)) by simp [u8s, List.map_set]]
  exact this
/-- The string of the bytes. -/
def kstr (l : List UInt8) : ByteArray := ⟨l.toArray⟩
theorem kx_kstr (l : List UInt8) : kx (kstr l) = l := kx_mk l
theorem kstr_size (l : List UInt8) : (kstr l).size = l.length := by rw [← kx_len, kx_kstr]
theorem bstr_u8 (l : List UInt8) : bstr (l.map fun x => (x.toNat : Int)) = kstr l := by
  unfold bstr kstr
  congr 2
  rw [List.map_map]
  conv => rhs; rw [← List.map_id l]
  refine List.map_congr_left fun x _ => ?_
  simp
theorem run_kstr {w : World} {g : Nat} {l : List UInt8} {c n : Nat} (h : U8Blk w g l) (hn : n = l.length) : (convert 48 9 (.slice (some ⟨g, 0, none⟩) n c)).run Try.prog w = .ok (.string (kstr l)) w := by
  have hs : Sl w (· = g) (some ⟨g, 0, none⟩) ((l.map fun x => (x.toNat : Int)).map fun x => Value.int .u8 x) := by
    have := Sl.of_blk (F := (· = g)) rfl h l.length
    rw [show (u8s l).toArray.toList.take l.length = (l.map fun x => (x.toNat : Int)).map fun x => Value.int .u8 x by
      rw [List.take_of_length_le (by simp [u8s]), List.map_map]; rfl] at this
    exact this
  rw [run_str Try.underlying48 Try.underlying5 Try.underlying9 hs (by simpa using hn), bstr_u8]
theorem run_at_str {s : ByteArray} {n i : Nat} (h : s.size = n) (hi : i < n) (w : World) : (Instr.index 9 (.string s) (.int .i64 (i : Int))).run Try.prog w = .ok (.int .u8 (((kx s).getD i 0).toNat : Int)) w := by
  rw [run_index_string w 9 s .i64 i Try.underlying9, dif_pos (by omega)]
  congr 3
  have : i < (kx s).length := by rw [kx_len]; omega
  simp only [List.getD, List.getElem?_eq_getElem this, Option.getD_some, Int.toNat_natCast]
  simp [kx, ByteArray.getElem_eq_getElem_data]
theorem u8_wrap (x y : UInt8) : IntKind.u8.wrap ((x.toNat : Int) + (y.toNat : Int)) = ((x + y).toNat : Int) := by
  rw [IntKind.wrap_u8, UInt8.toNat_add]
  omega
theorem kstr_inj {a b : List UInt8} : kstr a = kstr b ↔ a = b := ⟨fun h => by have := congrArg kx h; simpa [kx_kstr] using this, fun h => by rw [h]⟩
/-- Strings compared, as the walk spells it. -/
theorem str_beq (a b : List UInt8) : ((kstr a).toList == (kstr b).toList) = decide (a = b) := by
  rw [Bool.eq_iff_iff, beq_iff_eq, decide_eq_true_eq, ByteArray.toList_eq, ByteArray.toList_eq]
  simp [kstr]
theorem kstr_kx (s : ByteArray) : kstr (kx s) = s := kx_inj (kx_kstr _)
end Go.Proofs.Ytblkgjdhaibhgaa
