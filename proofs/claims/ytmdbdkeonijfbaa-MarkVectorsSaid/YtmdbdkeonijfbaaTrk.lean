/- A 'Below' that is carried along a region that draws. -/
import Derived.Test.YtmdbdkeonijfbaaGen
namespace Go.Proofs.Ytmdbdkeonijfbaa
open Go.RowKit
/-- A 'Below' that 'assumption' passes by. -/
structure Trk (B : Nat) (w0 w : World) : Prop where
  out : Below B w0 w
theorem below_same {B : Nat} {w0 w wd : World} (h : Below B w0 w) (e1 : wd.heap = w.heap) (e2 : wd.os = w.os) (e3 : wd.tape = w.tape) (e4 : wd.output = w.output) : Below B w0 wd :=
  ⟨e2.trans h.os, e3.trans h.tape, e4.trans h.output, by rw [e1]; exact h.size, fun k hk => by rw [e1]; exact h.block k hk⟩
theorem below_seq {B : Nat} {w0 w wd w' : World} (h : Below B w0 w) (d : Below wd.heap.size wd w') (hB : B ≤ w.heap.size) (e1 : wd.heap = w.heap) (e2 : wd.os = w.os) (e3 : wd.tape = w.tape) (e4 : wd.output = w.output) : Below B w0 w' :=
  below_then (below_same h e1 e2 e3 e4) (by rw [e1]; exact hB) d
end Go.Proofs.Ytmdbdkeonijfbaa
