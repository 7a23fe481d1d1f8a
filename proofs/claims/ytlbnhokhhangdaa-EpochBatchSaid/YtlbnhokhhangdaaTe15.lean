/- The texts of this part, one behind the other: what is proved of the model and of the functions that the law reaches. -/
import Derived.Test.YtlbnhokhhangdaaTe12
import Derived.Test.YtlbnhokhhangdaaTe14
import Derived.Test.YtlbnhokhhangdaaRows
/- What comes in at the statements of layers 6 and 7: how data of these types are read. -/
namespace Go.Proofs.Ytlbnhokhhangdaa
open Go Go.Am Go.Pk Go.Lib
set_option linter.unusedVariables false

section
variable {H : Type} {enc : TypeId × Value → H} {W : World}
theorem laidOut : laidOutB Try.prog = true := by kernel_rfl
theorem own : ownKnob Try.prog.godebug = none := by kernel_rfl

theorem cells_9 : Try.prog.cellsOf 9 = 1 := by kernel_rfl
theorem cells_4 : Try.prog.cellsOf 4 = 1 := by kernel_rfl
theorem cells_3 : Try.prog.cellsOf 3 = 1 := by kernel_rfl
theorem cells_2 : Try.prog.cellsOf 2 = 1 := by kernel_rfl
theorem cells_73 : Try.prog.cellsOf 73 = 3 := by kernel_rfl
theorem cells_29 : Try.prog.cellsOf 29 = 3 := by kernel_rfl
theorem cells_32 : Try.prog.cellsOf 32 = 6 := by kernel_rfl
theorem cells_5 : Try.prog.cellsOf 5 = 1 := by kernel_rfl

theorem cells_ws : Try.prog.cellsOf 30 = 1 := by kernel_rfl
theorem cells_bytes : Try.prog.cellsOf 23 = 1 := by kernel_rfl

theorem dWrite : Dec enc Try.prog W 73 (fun l => ∃ w : Wr, l = (wr w).cells ∧ w.key.length ≤ maxLen ∧ w.value.length ≤ maxLen) := by
  refine (Dec.struct [_, _, _] Try.underlying73 ⟨rfl, Dec.str Try.underlying9, by rw [cells_9], Dec.str Try.underlying9, by rw [cells_9], Dec.bool Try.underlying4, trivial⟩ ?_ (by simp)).mono ?_
  · intro o u e
    cases e
    rw [cells_73, cells_4]
  · rintro l ⟨x, y, rfl, ⟨k, rfl, hk⟩, x2, y2, rfl, ⟨v, rfl, hv⟩, x3, y3, rfl, ⟨g, rfl⟩, rfl⟩
    exact ⟨⟨k, v, g⟩, rfl, hk, hv⟩

theorem dWrites : Dec enc Try.prog W 30 (fun l => ∃ ws : List Wr, l = [.sl (ws.map wr) .no] ∧ ws.length ≤ maxLen ∧ ∀ w ∈ ws, w.key.length ≤ maxLen ∧ w.value.length ≤ maxLen) :=
  Dec.slice wr (fun w => w.key.length ≤ maxLen ∧ w.value.length ≤ maxLen) Try.underlying30 cells_73 (by decide) (fun _ => rfl) dWrite

theorem dBytes : Dec enc Try.prog W 23 (fun l => ∃ b : Str, l = [.sl (encB b) .no] ∧ b.length ≤ maxLen ∧ ∀ c ∈ b, True) :=
  Dec.slice (fun c : UInt8 => AV.int .u8 c.toNat) (fun _ => True) Try.underlying23 cells_5 (by decide) (fun _ => rfl) (Dec.u8 Try.underlying5)

theorem dClock : Dec enc Try.prog W 29 (fun l => ∃ c : Clk, l = (ck c).cells) := by
  refine (Dec.arr [_, _, _] Try.underlying29 ⟨by rw [cells_2], Dec.int Try.underlying2, by rw [cells_2], Dec.int Try.underlying2, by rw [cells_2], Dec.int Try.underlying2, trivial⟩ (by rw [cells_29, cells_2]) (by decide)).mono ?_
  rintro l ⟨x, y, rfl, ⟨a, rfl, -⟩, x2, y2, rfl, ⟨b, rfl, -⟩, x3, y3, rfl, ⟨c, rfl, -⟩, rfl⟩
  exact ⟨⟨a, b, c⟩, rfl⟩

/-- A transaction that came in: its texts are no longer than any may be; its numbers are numbers. -/
def Txn.come (t : Txn) : Prop := t.writes.length ≤ maxLen ∧ (∀ w ∈ t.writes, w.key.length ≤ maxLen ∧ w.value.length ≤ maxLen) ∧ -9223372036854775808 ≤ t.origin ∧ t.origin ≤ 9223372036854775807 ∧ -9223372036854775808 ≤ t.seq ∧ t.seq ≤ 9223372036854775807

theorem dTxn : Dec enc Try.prog W 32 (fun l => ∃ t : Txn, l = (tx t .no).cells ∧ Txn.come t) := by
  refine (Dec.struct [_, _, _, _] Try.underlying32 ⟨rfl, Dec.int Try.underlying3, by rw [cells_3], Dec.int Try.underlying2, by rw [cells_3, cells_2], dClock, by rw [cells_3, cells_2, cells_29], dWrites, trivial⟩ ?_ (by simp)).mono ?_
  · intro o u e
    cases e
    rw [cells_32, cells_ws]
  · rintro l ⟨x, y, rfl, ⟨o, rfl, ho⟩, x2, y2, rfl, ⟨s, rfl, hs⟩, x3, y3, rfl, ⟨c, rfl⟩, x4, y4, rfl, ⟨ws, rfl, h1, h2⟩, rfl⟩
    exact ⟨⟨o, s, c, ws⟩, rfl, h1, h2, ho.1, ho.2, hs.1, hs.2⟩

theorem dAct : Dec enc Try.prog W 34 (fun l => ∃ a : TAct, l = (ac a).cells ∧ Txn.come a.t ∧ a.b.length ≤ maxLen) := by
  refine (Dec.struct [_, _, _] Try.underlying34 ⟨rfl, Dec.int Try.underlying3, by rw [cells_3], dTxn, by rw [cells_3, cells_32], dBytes, trivial⟩ ?_ (by simp)).mono ?_
  · intro o u e
    cases e
    rw [cells_bytes]; kernel_rfl
  · rintro l ⟨x, y, rfl, ⟨d, rfl, -⟩, x2, y2, rfl, ⟨t, rfl, ht⟩, x3, y3, rfl, ⟨b, rfl, hb, -⟩, rfl⟩
    exact ⟨⟨d, t, b⟩, rfl, ht, hb⟩

theorem dActs : Dec enc Try.prog W 22 (fun l => ∃ l' : List TAct, l = [.sl (l'.map ac) .no] ∧ l'.length ≤ maxLen ∧ ∀ a ∈ l', Txn.come a.t ∧ a.b.length ≤ maxLen) :=
  Dec.slice ac (fun a => Txn.come a.t ∧ a.b.length ≤ maxLen) Try.underlying22 (sz := 8) (by kernel_rfl) (by decide) (fun _ => rfl) dAct
end
end Go.Proofs.Ytlbnhokhhangdaa
