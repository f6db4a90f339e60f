/-
  The seat's types: instances, codecs, how arguments read. Printed by a program of mine (types.py).
-/
import Derived.Test.YtlkbenlhngkibaaFacts
import Derived.Test.YtlkbenlhngkibaaOpen
namespace Go.Proofs.Ytlkbenlhngkibaa
open Go Go.RowKit Go.ChangeShapes

instance sc_3 : Sc Try.prog 3 := ⟨Try.isAgg3, Try.sizeOf3⟩
instance sc_4 : Sc Try.prog 4 := ⟨Try.isAgg4, Try.sizeOf4⟩
instance sc_5 : Sc Try.prog 5 := ⟨Try.isAgg5, Try.sizeOf5⟩
instance sc_9 : Sc Try.prog 9 := ⟨Try.isAgg9, Try.sizeOf9⟩
instance sc_22 : Sc Try.prog 22 := ⟨Try.isAgg22, Try.sizeOf22⟩
instance sc_23 : Sc Try.prog 23 := ⟨Try.isAgg23, Try.sizeOf23⟩
instance sc_24 : Sc Try.prog 24 := ⟨Try.isAgg24, Try.sizeOf24⟩
instance sc_28 : Sc Try.prog 28 := ⟨Try.isAgg28, Try.sizeOf28⟩
instance sc_29 : Sc Try.prog 29 := ⟨Try.isAgg29, Try.sizeOf29⟩
instance ag_31 : Ag Try.prog 31 3 := ⟨Try.isAgg31, Try.sizeOf31⟩
instance sc_32 : Sc Try.prog 32 := ⟨Try.isAgg32, Try.sizeOf32⟩
instance ag_34 : Ag Try.prog 34 2 := ⟨Try.isAgg34, Try.sizeOf34⟩
instance ag_40 : Ag Try.prog 40 5 := ⟨Try.isAgg40, Try.sizeOf40⟩
instance sc_53 : Sc Try.prog 53 := ⟨Try.isAgg53, Try.sizeOf53⟩
instance ag_55 : Ag Try.prog 55 256 := ⟨Try.isAgg55, Try.sizeOf55⟩
instance ag_57 : Ag Try.prog 57 259 := ⟨Try.isAgg57, Try.sizeOf57⟩
structure T_pithlaw19_Piece where
  Two : Bool
  B : (Sl × List UInt8)
def T_pithlaw19_Piece.zero : T_pithlaw19_Piece := ⟨false, (⟨none, 0⟩, [])⟩
def T_pithlaw19_Piece.enc (b : T_pithlaw19_Piece) : List Value := [.bool b.Two, .slice b.B.1.a b.B.2.length b.B.1.c]
structure T_pithlaw19_Held where
  B : (Sl × List UInt8)
  N : Int
  Mark : UInt8
  Want : List UInt8
  Kept : Bool
def T_pithlaw19_Held.zero : T_pithlaw19_Held := ⟨(⟨none, 0⟩, []), 0, 0, [], false⟩
def T_pithlaw19_Held.enc (b : T_pithlaw19_Held) : List Value := [.slice b.B.1.a b.B.2.length b.B.1.c, .int .i64 b.N, bv b.Mark, .string ⟨List.toArray b.Want⟩, .bool b.Kept]
def cd_int : Cd Int := { e := 3, size := 1, bytes := 8, zero := 0, enc := fun b => [.int .i64 b], len := fun _ => rfl, one := by intro b u hu; simp only [List.mem_cons, List.not_mem_nil, or_false] at hu; subst hu; rfl }
def cd_uint8 : Cd UInt8 := { e := 5, size := 1, bytes := 1, zero := 0, enc := fun b => [bv b], len := fun _ => rfl, one := by intro b u hu; simp only [List.mem_cons, List.not_mem_nil, or_false] at hu; subst hu; rfl }
def cd_pithlaw19_Piece : Cd T_pithlaw19_Piece := { e := 34, size := 2, bytes := 32, zero := T_pithlaw19_Piece.zero, enc := T_pithlaw19_Piece.enc, len := fun _ => rfl, one := by intro b u hu; simp only [T_pithlaw19_Held.enc, T_pithlaw19_Piece.enc, List.mem_cons, List.mem_append, List.not_mem_nil, or_false] at hu; rcases hu with rfl|rfl <;> rfl }
def cd_pithlaw19_Held : Cd T_pithlaw19_Held := { e := 40, size := 5, bytes := 64, zero := T_pithlaw19_Held.zero, enc := T_pithlaw19_Held.enc, len := fun _ => rfl, one := by intro b u hu; simp only [T_pithlaw19_Held.enc, T_pithlaw19_Piece.enc, List.mem_cons, List.mem_append, List.not_mem_nil, or_false] at hu; rcases hu with rfl|rfl|rfl|rfl|rfl <;> rfl }
theorem flat_uint8 (l : List UInt8) : cd_uint8.flat l = bvs l := cd_uint8.flat_single bv (fun _ => rfl) l
instance row_22 : Row Try.prog 22 T_pithlaw19_Piece cd_pithlaw19_Piece := ⟨(.agg #[(.bool false), (.slice none 0 0)]), ⟨Try.underlying22, info_parts (by kernel_rfl), rfl, by decide⟩, rfl⟩
instance row_29 : Row Try.prog 29 UInt8 cd_uint8 := ⟨(.int .u8 0), ⟨Try.underlying29, info_parts (by kernel_rfl), rfl, by decide⟩, rfl⟩
instance row_32 : Row Try.prog 32 T_pithlaw19_Held cd_pithlaw19_Held := ⟨(.agg #[(.slice none 0 0), (.int .i64 0), (.int .u8 0), (.string ⟨#[]⟩), (.bool false)]), ⟨Try.underlying32, info_parts (by kernel_rfl), rfl, by decide⟩, rfl⟩
instance row_53 : Row Try.prog 53 Int cd_int := ⟨(.int .i64 0), ⟨Try.underlying53, info_parts (by kernel_rfl), rfl, by decide⟩, rfl⟩
theorem cells_3 : Try.prog.cellsOf 3 = 1 := by kernel_rfl
theorem bytes_3 : Try.prog.bytesOf 3 = 8 := by kernel_rfl
theorem cells_4 : Try.prog.cellsOf 4 = 1 := by kernel_rfl
theorem bytes_4 : Try.prog.bytesOf 4 = 1 := by kernel_rfl
theorem cells_5 : Try.prog.cellsOf 5 = 1 := by kernel_rfl
theorem bytes_5 : Try.prog.bytesOf 5 = 1 := by kernel_rfl
theorem cells_9 : Try.prog.cellsOf 9 = 1 := by kernel_rfl
theorem bytes_9 : Try.prog.bytesOf 9 = 16 := by kernel_rfl
theorem cells_22 : Try.prog.cellsOf 22 = 1 := by kernel_rfl
theorem bytes_22 : Try.prog.bytesOf 22 = 24 := by kernel_rfl
theorem cells_29 : Try.prog.cellsOf 29 = 1 := by kernel_rfl
theorem bytes_29 : Try.prog.bytesOf 29 = 24 := by kernel_rfl
theorem cells_32 : Try.prog.cellsOf 32 = 1 := by kernel_rfl
theorem bytes_32 : Try.prog.bytesOf 32 = 24 := by kernel_rfl
theorem cells_34 : Try.prog.cellsOf 34 = 2 := by kernel_rfl
theorem bytes_34 : Try.prog.bytesOf 34 = 32 := by kernel_rfl
theorem cells_40 : Try.prog.cellsOf 40 = 5 := by kernel_rfl
theorem bytes_40 : Try.prog.bytesOf 40 = 64 := by kernel_rfl
theorem cells_53 : Try.prog.cellsOf 53 = 1 := by kernel_rfl
theorem bytes_53 : Try.prog.bytesOf 53 = 24 := by kernel_rfl
theorem piece (cs : List Value) (o s : Nat) : cs.drop o = (cs.drop o).take s ++ cs.drop (o + s) := by rw [← List.drop_drop, List.take_append_drop]
def T_pithlaw19_Piece.ok (W : World) (b : T_pithlaw19_Piece) (k : Nat) : Prop := True ∧ (∃ k', k' ≤ k ∧ (RdP cd_uint8 (old W) b.B.1 b.B.2 ∧ b.B.2.length * 1 ≤ reachBytes ∧ b.B.2.length + 1 ≤ k' ∧ ∀ c0 ∈ b.B.2, ∃ k0, k0 ≤ k' ∧ True))
theorem opn_pithlaw19_Piece (W : World) : Opn Try.prog W 34 T_pithlaw19_Piece.enc (T_pithlaw19_Piece.ok W) := by
  refine ⟨fun {H} en fuel cs x hx hw => ?_⟩
  obtain ⟨xs, n, _, rfl, hl, hlen, hf⟩ := DataW.trod_struct Try.underlying34 hx
  have hlen : xs.length = 2 := hlen
  rw [cells_34] at hl
  obtain ⟨b0, e0, k0, m0, o0⟩ := opn_field Try.underlying34 hw hf 0 4 0 1 ⟨_, rfl, rfl, rfl⟩ cells_4 (by omega) (opn_bool Try.underlying4)
  have q0 := piece cs 0 1
  rw [e0] at q0
  obtain ⟨b1, e1, k1, m1, o1⟩ := opn_field Try.underlying34 hw hf 1 29 1 1 ⟨_, rfl, rfl, rfl⟩ cells_29 (by omega) (opn_slice (C := cd_uint8) Try.underlying29 cells_5 bytes_5 (opn_u8 Try.underlying5))
  have q1 := piece cs 1 1
  rw [e1] at q1
  have hz : cs.drop 2 = [] := List.drop_of_length_le (by omega)
  refine ⟨⟨b0, b1⟩, ?_, ⟨o0, ⟨_, m1, o1⟩⟩⟩
  have q : cs.drop 0 = _ := q0
  simp only [Nat.zero_add, Nat.reduceAdd, hz, List.drop_zero] at q q1
  rw [q1] at q
  exact q
def T_pithlaw19_Held.ok (W : World) (b : T_pithlaw19_Held) (k : Nat) : Prop := (∃ k', k' ≤ k ∧ (RdP cd_uint8 (old W) b.B.1 b.B.2 ∧ b.B.2.length * 1 ≤ reachBytes ∧ b.B.2.length + 1 ≤ k' ∧ ∀ c0 ∈ b.B.2, ∃ k0, k0 ≤ k' ∧ True)) ∧ (-9223372036854775808 ≤ b.N ∧ b.N < 9223372036854775808) ∧ True ∧ (∃ k', k' ≤ k ∧ (b.Want.length ≤ reachBytes ∧ b.Want.length + 1 ≤ k')) ∧ True
theorem opn_pithlaw19_Held (W : World) : Opn Try.prog W 40 T_pithlaw19_Held.enc (T_pithlaw19_Held.ok W) := by
  refine ⟨fun {H} en fuel cs x hx hw => ?_⟩
  obtain ⟨xs, n, _, rfl, hl, hlen, hf⟩ := DataW.trod_struct Try.underlying40 hx
  have hlen : xs.length = 5 := hlen
  rw [cells_40] at hl
  obtain ⟨b0, e0, k0, m0, o0⟩ := opn_field Try.underlying40 hw hf 0 29 0 1 ⟨_, rfl, rfl, rfl⟩ cells_29 (by omega) (opn_slice (C := cd_uint8) Try.underlying29 cells_5 bytes_5 (opn_u8 Try.underlying5))
  have q0 := piece cs 0 1
  rw [e0] at q0
  obtain ⟨b1, e1, k1, m1, o1⟩ := opn_field Try.underlying40 hw hf 1 3 1 1 ⟨_, rfl, rfl, rfl⟩ cells_3 (by omega) (opn_i64 Try.underlying3)
  have q1 := piece cs 1 1
  rw [e1] at q1
  obtain ⟨b2, e2, k2, m2, o2⟩ := opn_field Try.underlying40 hw hf 2 5 2 1 ⟨_, rfl, rfl, rfl⟩ cells_5 (by omega) (opn_u8 Try.underlying5)
  have q2 := piece cs 2 1
  rw [e2] at q2
  obtain ⟨b3, e3, k3, m3, o3⟩ := opn_field Try.underlying40 hw hf 3 9 3 1 ⟨_, rfl, rfl, rfl⟩ cells_9 (by omega) (opn_str Try.underlying9)
  have q3 := piece cs 3 1
  rw [e3] at q3
  obtain ⟨b4, e4, k4, m4, o4⟩ := opn_field Try.underlying40 hw hf 4 4 4 1 ⟨_, rfl, rfl, rfl⟩ cells_4 (by omega) (opn_bool Try.underlying4)
  have q4 := piece cs 4 1
  rw [e4] at q4
  have hz : cs.drop 5 = [] := List.drop_of_length_le (by omega)
  refine ⟨⟨b0, b1, b2, b3, b4⟩, ?_, ⟨⟨_, m0, o0⟩, o1, o2, ⟨_, m3, o3⟩, o4⟩⟩
  have q : cs.drop 0 = _ := q0
  simp only [Nat.zero_add, Nat.reduceAdd, hz, List.drop_zero] at q q1 q2 q3 q4
  rw [q1] at q
  rw [q2] at q
  rw [q3] at q
  rw [q4] at q
  exact q
end Go.Proofs.Ytlkbenlhngkibaa
