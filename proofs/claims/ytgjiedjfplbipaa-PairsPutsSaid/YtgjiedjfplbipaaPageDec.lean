/- page.Take, page.Decode. -/
import Derived.Test.YtgjiedjfplbipaaPageSlots
namespace Go.Proofs.Ytgjiedjfplbipaa
open Go.RowKit Go.Lib
section
def noPage : PgV := ⟨⟨#[]⟩, false, [], []⟩
/-- The page behind place a. -/
def pgT (s : ByteArray) (a : Nat) (e : Int) : PgV × Nat × Int :=
  let p := blobR s a e 31
  let f := flagR s p.2.1 p.2.2
  if f.1 = true then
    let r := itemsR s f.2.1 f.2.2 p.1
    (if r.2.2 = 0 then ⟨p.1, true, [], r.1⟩ else noPage, r.2)
  else
    let r := slotsR s f.2.1 f.2.2
    (if r.2.2 = 0 then ⟨p.1, false, r.1, []⟩ else noPage, r.2)
/-- The page of a text. -/
def pgD (s : ByteArray) : PgV × Int :=
  let t := pgT s 0 0
  if endR s t.2.1 t.2.2 = 0 then (t.1, 0) else (noPage, endR s t.2.1 t.2.2)
def pgA (g : PgV) (A1 A2 : Option Addr) (c1 c2 : Nat) : Value := .agg #[.string g.pre, .bool g.leaf, .slice A1 g.sl.length c1, .slice A2 g.it.length c2]

theorem set4 (w : World) (r : Nat) (a b c d : Value) : Ext (· = r) w ((((w.setCell ⟨r, 0, none⟩ a).setCell ⟨r, 1, none⟩ b).setCell ⟨r, 2, none⟩ c).setCell ⟨r, 3, none⟩ d) :=
  (((Ext.self w r 0 a).setCell (p := ⟨r, 1, none⟩) (fun _ => rfl) b).setCell (p := ⟨r, 2, none⟩) (fun _ => rfl) c).setCell (p := ⟨r, 3, none⟩) (fun _ => rfl) d

end
end Go.Proofs.Ytgjiedjfplbipaa
