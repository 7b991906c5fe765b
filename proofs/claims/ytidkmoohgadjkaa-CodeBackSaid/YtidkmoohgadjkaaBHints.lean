/- The temporaries that live at the loops' heads, and at the cuts. Written by gen.py. -/
namespace Go.Proofs.Ytidkmoohgadjkaa
def Hh : List (Nat × Nat × List Nat) := [
  (3, 1009, [1, 0, 4]), (3, 1013, [2, 4]), (3, 1019, [2, 4]),
  (5, 8, [3, 0]),
  (11, 4, [3, 3, 0, 0]), (11, 8, [3, 3, 0, 0, 7])]
end Go.Proofs.Ytidkmoohgadjkaa
