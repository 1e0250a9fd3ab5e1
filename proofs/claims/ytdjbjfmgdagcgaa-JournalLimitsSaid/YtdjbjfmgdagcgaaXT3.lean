/- Trees of functions, checked against the program by the kernel. Printed by gen.py. -/
import Derived.Test.YtdjbjfmgdagcgaaXC
namespace Go.Proofs.Ytdjbjfmgdagcgaa
open Go.Fw
set_option maxRecDepth 100000
/-- (*pagemend/pagemenddraw.Codes).OddEntry -/
def t46 : Tree :=
 .call 30 [.var 0, .var 1, .lt (.int 9)] 3 <|
 .ite (.e2 .ieq (.var 15) (.lt (.int 0))) (
  .call 81 [.var 16, .var 17] 3 <|
  .ret [.var 18, .var 3, .var 4, .var 5, .var 6, .var 7, .var 8, .var 9, .var 10, .var 11, .var 12, .var 13, .var 14, .var 19, .var 20]) (
  .ite (.e2 .ieq (.var 15) (.lt (.int 1))) (
   .call 30 [.var 16, .var 17, .lt (.int 11)] 3 <|
   .ret [.var 2, .e2 (.sub .i64) (.var 18) (.lt (.int 1)), .var 4, .var 5, .var 6, .var 7, .var 8, .var 9, .var 10, .var 11, .var 12, .var 13, .var 14, .var 19, .var 20]) (
   .ite (.e2 .ieq (.var 15) (.lt (.int 2))) (
    .call 81 [.var 16, .var 17] 3 <|
    .ret [.var 2, .var 3, .var 18, .var 5, .var 6, .var 7, .var 8, .var 9, .var 10, .var 11, .var 12, .var 13, .var 14, .var 19, .var 20]) (
    .ite (.e2 .ieq (.var 15) (.lt (.int 3))) (
     .call 81 [.var 16, .var 17] 3 <|
     .ret [.var 2, .var 3, .var 4, .var 18, .var 6, .var 7, .var 8, .var 9, .var 10, .var 11, .var 12, .var 13, .var 14, .var 19, .var 20]) (
     .ite (.e2 .ieq (.var 15) (.lt (.int 4))) (
      .call 81 [.var 16, .var 17] 3 <|
      .ret [.var 2, .var 3, .var 4, .var 5, .var 18, .var 7, .var 8, .var 9, .var 10, .var 11, .var 12, .var 13, .var 14, .var 19, .var 20]) (
      .ite (.e2 .ieq (.var 15) (.lt (.int 5))) (
       .call 81 [.var 16, .var 17] 3 <|
       .ret [.var 2, .var 3, .var 4, .var 5, .var 6, .var 18, .var 8, .var 9, .var 10, .var 11, .var 12, .var 13, .var 14, .var 19, .var 20]) (
       .ite (.e2 .ieq (.var 15) (.lt (.int 6))) (
        .call 82 [.var 16, .var 17, .var 8, .var 9, .var 10, .var 11, .var 12, .var 13] 8 <|
        .ret [.var 2, .var 3, .var 4, .var 5, .var 6, .var 7, .var 18, .var 19, .var 20, .var 21, .var 22, .var 23, .var 14, .var 24, .var 25]) (
        .ite (.e2 .ieq (.var 15) (.lt (.int 7))) (
         .call 69 [.var 16, .var 17] 3 <|
         .ret [.var 2, .var 3, .var 4, .var 5, .var 6, .var 7, .var 8, .var 9, .var 10, .var 11, .var 12, .var 13, .var 18, .var 19, .var 20]) (
         .ite (.e2 .ieq (.var 15) (.lt (.int 8))) (
          .call 30 [.var 16, .var 17, .lt (.int 2)] 3 <|
          .guard (.e2 .ile (.lt (.int 0)) (.e2 (.add .i64) (.lt (.int 8192)) (.var 18))) <|
          .guard (.e2 .ile (.e2 (.add .i64) (.lt (.int 8192)) (.var 18)) (.e2 (.add .i64) (.lt (.int 8192)) (.var 18))) <|
          .guard (.e2 .ile (.e2 (.add .i64) (.lt (.int 8192)) (.var 18)) (.lt (.int 140737488355328))) <|
          .ret [.var 2, .var 3, .var 4, .var 5, .var 6, .var 7, .var 8, .var 9, .var 10, .var 11, .var 12, .var 13, .e1 .strOf (.e2 .rep (.e2 (.add .i64) (.lt (.int 8192)) (.var 18)) (.e1 .one (.lt (.int 0)))), .var 19, .var 20]) (
          .ret [.var 2, .var 3, .var 4, .var 5, .var 6, .var 7, .var 8, .var 9, .var 10, .var 11, .var 12, .var 13, .var 14, .var 16, .var 17])))))))))
theorem h46 : symFn K [] 46 = .ok t46 := by kernel_rfl

/-- pagemend/entry.Changes -/
def t47 : Tree :=
 .ite (.e2 .ieq (.var 1) (.lt (.int 1))) (
  .ret [.lt (.bool true)]) (
  .ret [.e2 .ieq (.var 1) (.lt (.int 2))])
theorem h47 : symFn K [] 47 = .ok t47 := by kernel_rfl

/-- pagemend/pagemendref05.Changes -/
def t48 : Tree :=
 .ite (.e2 .ieq (.var 1) (.lt (.int 1))) (
  .ret [.lt (.bool true)]) (
  .ret [.e2 .ieq (.var 1) (.lt (.int 2))])
theorem h48 : symFn K [] 48 = .ok t48 := by kernel_rfl

/-- pagemend/pagemendlaw06.awake -/
def t49 : Tree :=
 .call 83 [] 3 <|
 .call 50 [.var 0, .var 1, .var 2, .lt (.int 0), .lt (.int 8), .lt (.int 0), .lt (.int 0), .lt (.int 0), .lt (.int 0), .lt (.int 0), .lt (.int 0), .lt (.bool false), .lt (.str []), .lt (.bool false), .lt (.str []), .lt (.str [120])] 5 <|
 .ite (.e2 .ieq (.var 7) (.lt (.int 0))) (
  .ite (.e2 .ieq (.var 6) (.lt (.int 1))) (
   .call 84 [.var 3, .var 4, .var 5] 1 <|
   .ite (.e2 .ieq (.var 8) (.lt (.int 1))) (
    .call 83 [] 3 <|
    .call 85 [.var 9, .var 10, .var 11] 1 <|
    .ret [.e2 .ieq (.e1 .slen (.var 12)) (.lt (.int 20))]) (
    .ret [.lt (.bool false)])) (
   .ret [.lt (.bool false)])) (
  .ret [.lt (.bool false)])
theorem h49 : symFn K [] 49 = .ok t49 := by kernel_rfl

/-- pagemend/journal.Append -/
def t50 : Tree :=
 .call 86 [.var 0, .var 1, .var 2] 1 <|
 .ite (.e1 .not (.var 16)) (
  .ret [.lt (.int 0), .lt .nil, .lt (.int 0), .lt (.int 0), .lt (.int 26)]) (
  .call 87 [.var 0, .var 1, .var 2] 1 <|
  .ite (.e2 .ieq (.e1 .llen (.var 1)) (.lt (.int 4096))) (
   .ret [.lt (.int 0), .lt .nil, .lt (.int 0), .lt (.int 0), .lt (.int 21)]) (
   .ite (.e2 .igt (.e2 (.add .i64) (.var 17) (.lt (.int 1))) (.lt (.int 1099511627776))) (
    .ret [.lt (.int 0), .lt .nil, .lt (.int 0), .lt (.int 0), .lt (.int 21)]) (
    .call 44 [.e2 (.add .i64) (.var 17) (.lt (.int 1)), .var 4, .var 5, .var 6, .var 7, .var 8, .var 9, .var 10, .var 11, .var 12, .var 13, .var 14, .var 15] 1 <|
    .ite (.e1 .not (.var 18)) (
     .ret [.lt (.int 0), .lt .nil, .lt (.int 0), .lt (.int 0), .lt (.int 12)]) (
     .call 88 [.var 1] 1 <|
     .guard (.e2 .ile (.e2 .min (.e1 .llen (.var 19)) (.lt (.int 1))) (.e1 .llen (.e2 .app (.e2 .addc (.e2 .addc (.e2 .addc (.e2 .addc (.e2 .addc (.e2 .addc (.e2 .addc (.e2 .addc (.e2 .addc (.e2 .addc (.e2 .addc (.e2 .addc (.e1 .one (.e2 (.add .i64) (.var 17) (.lt (.int 1)))) (.var 4)) (.var 5)) (.var 6)) (.var 7)) (.var 8)) (.var 9)) (.var 10)) (.var 11)) (.var 12)) (.var 13)) (.var 14)) (.var 15)) (.lt .nil)))) <|
     .guard (.e2 .ile (.e1 .llen (.e2 .app (.var 19) (.e2 .app (.e2 .addc (.e2 .addc (.e2 .addc (.e2 .addc (.e2 .addc (.e2 .addc (.e2 .addc (.e2 .addc (.e2 .addc (.e2 .addc (.e2 .addc (.e2 .addc (.e1 .one (.e2 (.add .i64) (.var 17) (.lt (.int 1)))) (.var 4)) (.var 5)) (.var 6)) (.var 7)) (.var 8)) (.var 9)) (.var 10)) (.var 11)) (.var 12)) (.var 13)) (.var 14)) (.var 15)) (.lt .nil)))) (.lt (.int 1099511627776))) <|
     .ret [.var 0, .e2 .app (.var 19) (.e2 .app (.e2 .addc (.e2 .addc (.e2 .addc (.e2 .addc (.e2 .addc (.e2 .addc (.e2 .addc (.e2 .addc (.e2 .addc (.e2 .addc (.e2 .addc (.e2 .addc (.e1 .one (.e2 (.add .i64) (.var 17) (.lt (.int 1)))) (.var 4)) (.var 5)) (.var 6)) (.var 7)) (.var 8)) (.var 9)) (.var 10)) (.var 11)) (.var 12)) (.var 13)) (.var 14)) (.var 15)) (.lt .nil)), .var 2, .e2 (.add .i64) (.var 17) (.lt (.int 1)), .lt (.int 0)]))))
theorem h50 : symFn K [] 50 = .ok t50 := by kernel_rfl

/-- pagemend/journal.Force -/
def t51 : Tree :=
 .call 86 [.var 0, .var 1, .var 2] 1 <|
 .ite (.e1 .not (.var 4)) (
  .ret [.lt (.int 0), .lt .nil, .lt (.int 0), .lt (.int 26)]) (
  .call 87 [.var 0, .var 1, .var 2] 1 <|
  .ite (.e2 .igt (.var 3) (.var 5)) (
   .ret [.lt (.int 0), .lt .nil, .lt (.int 0), .lt (.int 14)]) (
   .ret [.var 0, .var 1, .e2 .max (.var 2) (.var 3), .lt (.int 0)]))
theorem h51 : symFn K [] 51 = .ok t51 := by kernel_rfl

/-- pagemend/journal.Cut -/
def t52 : Tree :=
 .call 86 [.var 0, .var 1, .var 2] 1 <|
 .ite (.e1 .not (.var 4)) (
  .ret [.lt (.int 0), .lt .nil, .lt (.int 0), .lt (.int 26)]) (
  .ite (.e2 .ilt (.var 3) (.var 0)) (
   .ret [.lt (.int 0), .lt .nil, .lt (.int 0), .lt (.int 1)]) (
   .call 87 [.var 0, .var 1, .var 2] 1 <|
   .ite (.e2 .igt (.var 3) (.e2 (.add .i64) (.var 5) (.lt (.int 1)))) (
    .ret [.lt (.int 0), .lt .nil, .lt (.int 0), .lt (.int 1)]) (
    .ite (.e2 .igt (.var 3) (.lt (.int 1099511627776))) (
     .ret [.lt (.int 0), .lt .nil, .lt (.int 0), .lt (.int 1)]) (
     .ite (.e2 .igt (.e2 (.sub .i64) (.var 3) (.lt (.int 1))) (.var 2)) (
      .ret [.lt (.int 0), .lt .nil, .lt (.int 0), .lt (.int 15)]) (
      .guard (.e2 .ile (.lt (.int 0)) (.e1 .llen (.var 1))) <|
      .guard (.e2 .ile (.e1 .llen (.var 1)) (.e1 .llen (.var 1))) <|
      .guard (.e2 .ile (.lt (.int 0)) (.e2 (.sub .i64) (.var 3) (.var 0))) <|
      .guard (.e2 .ile (.e2 (.sub .i64) (.var 3) (.var 0)) (.e1 .llen (.var 1))) <|
      .call 89 [.e3 .lsub (.var 1) (.e2 (.sub .i64) (.var 3) (.var 0)) (.e1 .llen (.var 1))] 1 <|
      .ret [.var 3, .var 6, .var 2, .lt (.int 0)])))))
theorem h52 : symFn K [] 52 = .ok t52 := by kernel_rfl

/-- pagemend/segments.count -/
def t53 : Tree :=
 .ret [.e2 (.quo .i64) (.e2 (.sub .i64) (.e2 (.add .i64) (.var 0) (.lt (.int 4))) (.lt (.int 1))) (.lt (.int 4))]
theorem h53 : symFn K [] 53 = .ok t53 := by kernel_rfl

/-- pagemend/segments.Valid -/
def t54 : Tree :=
 .ite (.e1 .not (.var 0)) (
  .ret [.e2 .ieq (.e2 (.add .i64) (.e1 .llen (.var 1)) (.e1 .llen (.var 2))) (.lt (.int 0))]) (
  .ite (.e2 .ilt (.e1 .llen (.var 1)) (.lt (.int 1))) (
   .ret [.lt (.bool false)]) (
   .ite (.e2 .igt (.e1 .llen (.var 1)) (.lt (.int 16))) (
    .ret [.lt (.bool false)]) (
    .call 90 [.var 1, .lt (.bool false)] 1 <|
    .ite (.e1 .not (.var 3)) (
     .ret [.lt (.bool false)]) (
     .guard (.e2 .ile (.lt (.int 0)) (.e1 .llen (.var 1))) <|
     .guard (.e2 .ile (.e1 .llen (.var 1)) (.e1 .llen (.var 1))) <|
     .guard (.e2 .ile (.e1 .llen (.var 1)) (.lt (.int 140737488355328))) <|
     .join 2 (
      .ite (.e2 .ilt (.var 4) (.e1 .llen (.var 2))) (
       .guard (.e2 .ile (.lt (.int 0)) (.var 4)) <|
       .guard (.e2 .ilt (.var 4) (.e1 .llen (.var 2))) <|
       .ite (.e2 .ilt (.e1 (.cell 0) (.e2 .row (.var 2) (.var 4))) (.lt (.int 0))) (
        .ret [.lt (.bool false)]) (
        .ite (.e2 .ige (.e1 (.cell 0) (.e2 .row (.var 2) (.var 4))) (.e1 .llen (.var 1))) (
         .ret [.lt (.bool false)]) (
         .guard (.e2 .ile (.lt (.int 0)) (.e1 (.cell 0) (.e2 .row (.var 2) (.var 4)))) <|
         .guard (.e2 .ilt (.e1 (.cell 0) (.e2 .row (.var 2) (.var 4))) (.e1 .llen (.var 1))) <|
         .ite (.e1 (.cell 0) (.e2 .row (.var 1) (.e1 (.cell 0) (.e2 .row (.var 2) (.var 4))))) (
          .ret [.lt (.bool false)]) (
          .guard (.e2 .ile (.lt (.int 0)) (.e1 (.cell 0) (.e2 .row (.var 2) (.var 4)))) <|
          .guard (.e2 .ilt (.e1 (.cell 0) (.e2 .row (.var 2) (.var 4))) (.e1 .llen (.var 5))) <|
          .ite (.e1 (.cell 0) (.e2 .row (.var 5) (.e1 (.cell 0) (.e2 .row (.var 2) (.var 4))))) (
           .ret [.lt (.bool false)]) (
           .guard (.e2 .ile (.lt (.int 0)) (.e1 (.cell 0) (.e2 .row (.var 2) (.var 4)))) <|
           .guard (.e2 .ilt (.e1 (.cell 0) (.e2 .row (.var 2) (.var 4))) (.e1 .llen (.var 5))) <|
           .jump 0 [.e2 (.add .i64) (.var 4) (.lt (.int 1)), .e3 .lset (.var 5) (.e1 (.cell 0) (.e2 .row (.var 2) (.var 4))) (.e1 .one (.lt (.bool true)))]))))) (
       .ret [.lt (.bool true)])) <|
     .jump 0 [.lt (.int 0), .e2 .rep (.e1 .llen (.var 1)) (.e1 .one (.lt (.bool false)))]))))
theorem h54 : symFn K [(7, [.live 40, .obj 1])] 54 = .ok t54 := by kernel_rfl

/-- pagemend/codec.remainders -/
def t58 : Tree :=
 .join 2 (
  .ite (.e2 .ilt (.var 0) (.lt (.int 16))) (
   .join 2 (
    .ite (.e2 .ilt (.var 3) (.lt (.int 4))) (
     .ite (.e2 .ieq (.e2 (.and .u32) (.var 2) (.lt (.int 1))) (.lt (.int 1))) (
      .jump 1 [.e2 (.xor .u32) (.e2 (.shr .u32) (.var 2) (.lt (.int 1))) (.lt (.int 2197175160)), .e2 (.add .i64) (.var 3) (.lt (.int 1))]) (
      .jump 1 [.e2 (.shr .u32) (.var 2) (.lt (.int 1)), .e2 (.add .i64) (.var 3) (.lt (.int 1))])) (
     .guard (.e2 .ile (.lt (.int 0)) (.var 0)) <|
     .guard (.e2 .ilt (.var 0) (.lt (.int 16))) <|
     .jump 0 [.e2 (.add .i64) (.var 0) (.lt (.int 1)), .e3 .lset (.var 1) (.var 0) (.e1 .one (.var 2))])) <|
   .jump 1 [.e1 (.conv .u32) (.var 0), .lt (.int 0)]) (
   .ret [.var 1])) <|
 .jump 0 [.lt (.int 0), .e2 .rep (.lt (.int 16)) (.e1 .one (.lt (.int 0)))]
theorem h58 : symFn K [(3, [.live 4, .obj 1]), (7, [.live 9, .live 3])] 58 = .ok t58 := by kernel_rfl

/-- pagemend/segments.check -/
def t59 : Tree :=
 .call 54 [.var 0, .var 1, .var 2] 1 <|
 .ite (.e1 .not (.var 4)) (
  .ret [.lt (.int 15)]) (
  .ite (.e1 .not (.var 0)) (
   .ret [.lt (.int 51)]) (
   .ite (.e2 .ilt (.var 3) (.lt (.int 0))) (
    .ret [.lt (.int 46)]) (
    .ite (.e2 .ige (.var 3) (.e1 .llen (.var 1))) (
     .ret [.lt (.int 46)]) (
     .ret [.lt (.int 0)]))))
theorem h59 : symFn K [] 59 = .ok t59 := by kernel_rfl

/-- slices.Contains[[]int,int] -/
def t60 : Tree :=
 .call 92 [.var 0, .var 1] 1 <|
 .ret [.e2 .ige (.var 2) (.lt (.int 0))]
theorem h60 : symFn K [] 60 = .ok t60 := by kernel_rfl

/-- slices.Clone[[]int,int] -/
def t61 : Tree :=
 .ite (.e2 .ieq (.e1 .llen (.var 0)) (.lt (.int 0))) (
  .any <|
  .ite (.e2 .beq (.var 1) (.lt (.bool true))) (
   .ret [.lt .nil]) (
   .guard (.e2 .ile (.e1 .llen (.e2 .app (.lt .nil) (.var 0))) (.lt (.int 17592186044416))) <|
   .ret [.e2 .app (.lt .nil) (.var 0)])) (
  .guard (.e2 .ile (.e1 .llen (.e2 .app (.lt .nil) (.var 0))) (.lt (.int 17592186044416))) <|
  .ret [.e2 .app (.lt .nil) (.var 0)])
theorem h61 : symFn K [] 61 = .ok t61 := by kernel_rfl

/-- slices.Index[[]bool,bool] -/
def t62 : Tree :=
 .join 1 (
  .ite (.e2 .ilt (.var 2) (.e1 .llen (.var 0))) (
   .guard (.e2 .ile (.lt (.int 0)) (.var 2)) <|
   .guard (.e2 .ilt (.var 2) (.e1 .llen (.var 0))) <|
   .ite (.e2 .beq (.var 1) (.e1 (.cell 0) (.e2 .row (.var 0) (.var 2)))) (
    .ret [.var 2]) (
    .jump 0 [.e2 (.add .i64) (.var 2) (.lt (.int 1))])) (
   .ret [.lt (.int (-1))])) <|
 .jump 0 [.lt (.int 0)]
theorem h62 : symFn K [(2, [.live 8])] 62 = .ok t62 := by kernel_rfl

/-- slices.Clone[[]bool,bool] -/
def t63 : Tree :=
 .ite (.e2 .ieq (.e1 .llen (.var 0)) (.lt (.int 0))) (
  .any <|
  .ite (.e2 .beq (.var 1) (.lt (.bool true))) (
   .ret [.lt .nil]) (
   .guard (.e2 .ile (.e1 .llen (.e2 .app (.lt .nil) (.var 0))) (.lt (.int 140737488355328))) <|
   .ret [.e2 .app (.lt .nil) (.var 0)])) (
  .guard (.e2 .ile (.e1 .llen (.e2 .app (.lt .nil) (.var 0))) (.lt (.int 140737488355328))) <|
  .ret [.e2 .app (.lt .nil) (.var 0)])
theorem h63 : symFn K [] 63 = .ok t63 := by kernel_rfl

/-- pagemend/segments.done -/
def t66 : Tree :=
 .join 2 (
  .ite (.e2 .ilt (.var 4) (.e1 .llen (.var 1))) (
   .guard (.e2 .ile (.lt (.int 0)) (.var 4)) <|
   .guard (.e2 .ilt (.var 4) (.e1 .llen (.var 1))) <|
   .ite (.e1 (.cell 0) (.e2 .row (.var 1) (.var 4))) (
    .jump 0 [.e2 (.add .i64) (.var 3) (.lt (.int 1)), .e2 (.add .i64) (.var 4) (.lt (.int 1))]) (
    .jump 0 [.var 3, .e2 (.add .i64) (.var 4) (.lt (.int 1))])) (
   .ret [.var 3])) <|
 .jump 0 [.lt (.int 0), .lt (.int 0)]
theorem h66 : symFn K [(3, [.live 8, .live 3])] 66 = .ok t66 := by kernel_rfl

/-- pagemend/pagemendref05.cell -/
def t67 : Tree :=
 .ite (.e1 .not (.var 1)) (
  .call 23 [.var 0, .lt (.int 255), .lt (.int 1)] 1 <|
  .ret [.var 3]) (
  .call 23 [.var 0, .e1 .slen (.var 2), .lt (.int 1)] 1 <|
  .guard (.e2 .ile (.e2 (.add .i64) (.e1 .slen (.var 3)) (.e1 .slen (.var 2))) (.lt (.int 140737488355328))) <|
  .guard (.e2 .ile (.e1 .slen (.var 3)) (.lt (.int 140737488355328))) <|
  .guard (.e2 .ile (.e1 .slen (.var 2)) (.lt (.int 140737488355328))) <|
  .ret [.e2 .cat (.var 3) (.var 2)])
theorem h67 : symFn K [] 67 = .ok t67 := by kernel_rfl

/-- (*pagemend/pagemenddraw.Codes).Change -/
def t68 : Tree :=
 .call 30 [.var 0, .var 1, .lt (.int 4)] 3 <|
 .call 30 [.var 3, .var 4, .lt (.int 3)] 3 <|
 .call 94 [.var 6, .var 7] 4 <|
 .call 94 [.var 10, .var 11] 4 <|
 .ret [.var 2, .var 5, .var 8, .var 9, .var 12, .var 13, .var 14, .var 15]
theorem h68 : symFn K [] 68 = .ok t68 := by kernel_rfl

/-- (*pagemend/pagemenddraw.Codes).Data -/
def t69 : Tree :=
 .call 30 [.var 0, .var 1, .lt (.int 5)] 3 <|
 .call 30 [.var 3, .var 4, .lt (.int 6)] 3 <|
 .ite (.e2 .ieq (.var 5) (.lt (.int 0))) (
  .call 30 [.var 6, .var 7, .lt (.int 14)] 3 <|
  .guard (.e2 .ile (.lt (.int 0)) (.var 8)) <|
  .guard (.e2 .ile (.var 8) (.lt (.int 140737488355328))) <|
  .join 4 (
   .ite (.e2 .ilt (.var 11) (.var 8)) (
    .call 30 [.var 12, .var 13, .lt (.int 3)] 3 <|
    .guard (.e2 .ile (.e1 .llen (.e2 .app (.var 14) (.e2 .app (.e1 .one (.e1 (.conv .u8) (.e2 (.add .i64) (.lt (.int 97)) (.var 15)))) (.lt .nil)))) (.lt (.int 140737488355328))) <|
    .jump 0 [.e2 (.add .i64) (.var 11) (.lt (.int 1)), .var 16, .var 17, .e2 .app (.var 14) (.e2 .app (.e1 .one (.e1 (.conv .u8) (.e2 (.add .i64) (.lt (.int 97)) (.var 15)))) (.lt .nil))]) (
    .ret [.e1 .strOf (.var 14), .var 12, .var 13])) <|
  .jump 0 [.lt (.int 0), .var 9, .var 10, .e2 .rep (.lt (.int 0)) (.e1 .one (.lt (.int 0)))]) (
  .guard (.e2 .ile (.lt (.int 0)) (.var 2)) <|
  .guard (.e2 .ile (.var 2) (.lt (.int 140737488355328))) <|
  .join 4 (
   .ite (.e2 .ilt (.var 8) (.var 2)) (
    .call 30 [.var 9, .var 10, .lt (.int 3)] 3 <|
    .guard (.e2 .ile (.e1 .llen (.e2 .app (.var 11) (.e2 .app (.e1 .one (.e1 (.conv .u8) (.e2 (.add .i64) (.lt (.int 97)) (.var 12)))) (.lt .nil)))) (.lt (.int 140737488355328))) <|
    .jump 0 [.e2 (.add .i64) (.var 8) (.lt (.int 1)), .var 13, .var 14, .e2 .app (.var 11) (.e2 .app (.e1 .one (.e1 (.conv .u8) (.e2 (.add .i64) (.lt (.int 97)) (.var 12)))) (.lt .nil))]) (
    .ret [.e1 .strOf (.var 11), .var 9, .var 10])) <|
  .jump 0 [.lt (.int 0), .var 6, .var 7, .e2 .rep (.lt (.int 0)) (.e1 .one (.lt (.int 0)))])
theorem h69 : symFn K [(6, [.live 5, .live 4, .obj 0, .obj 1, .kill 14])] 69 = .ok t69 := by kernel_rfl

/-- (*pagemend/entry.reader).number -/
def t70 : Tree :=
 .ite (.e2 .ine (.var 2) (.lt (.int 0))) (
  .ret [.lt (.int 0), .var 0, .var 1, .var 2]) (
  .call 24 [.var 0, .var 1, .var 3] 2 <|
  .ite (.e2 .ieq (.var 5) (.lt (.int 0))) (
   .ret [.var 4, .var 0, .e2 (.add .i64) (.var 1) (.var 3), .var 5]) (
   .ret [.var 4, .var 0, .var 1, .var 5]))
theorem h70 : symFn K [] 70 = .ok t70 := by kernel_rfl

/-- (*pagemend/entry.reader).cell -/
def t71 : Tree :=
 .call 70 [.var 0, .var 1, .var 2, .lt (.int 1)] 4 <|
 .ite (.e2 .ine (.var 6) (.lt (.int 0))) (
  .ret [.lt (.bool false), .lt (.str []), .var 4, .var 5, .var 6]) (
  .ite (.e2 .ieq (.var 3) (.lt (.int 255))) (
   .ret [.lt (.bool false), .lt (.str []), .var 4, .var 5, .var 6]) (
   .ite (.e2 .igt (.var 3) (.lt (.int 12))) (
    .ret [.lt (.bool false), .lt (.str []), .var 4, .var 5, .lt (.int 4)]) (
    .call 72 [.var 4, .var 5, .var 6, .var 3] 4 <|
    .ret [.lt (.bool true), .var 7, .var 8, .var 9, .var 10])))
theorem h71 : symFn K [] 71 = .ok t71 := by kernel_rfl

/-- (*pagemend/entry.reader).text -/
def t72 : Tree :=
 .ite (.e2 .ieq (.var 2) (.lt (.int 0))) (
  .ite (.e2 .ilt (.e2 (.sub .i64) (.e1 .slen (.var 0)) (.var 1)) (.var 3)) (
   .ret [.lt (.str []), .var 0, .var 1, .lt (.int 5)]) (
   .ite (.e2 .ine (.var 2) (.lt (.int 0))) (
    .ret [.lt (.str []), .var 0, .var 1, .var 2]) (
    .guard (.e2 .ile (.lt (.int 0)) (.e2 (.add .i64) (.var 1) (.var 3))) <|
    .guard (.e2 .ile (.e2 (.add .i64) (.var 1) (.var 3)) (.e1 .slen (.var 0))) <|
    .guard (.e2 .ile (.lt (.int 0)) (.e2 (.sub .i64) (.e2 (.add .i64) (.var 1) (.var 3)) (.var 3))) <|
    .guard (.e2 .ile (.e2 (.sub .i64) (.e2 (.add .i64) (.var 1) (.var 3)) (.var 3)) (.e2 (.add .i64) (.var 1) (.var 3))) <|
    .ret [.e3 .ssub (.var 0) (.e2 (.sub .i64) (.e2 (.add .i64) (.var 1) (.var 3)) (.var 3)) (.e2 (.add .i64) (.var 1) (.var 3)), .var 0, .e2 (.add .i64) (.var 1) (.var 3), .var 2]))) (
  .ite (.e2 .ine (.var 2) (.lt (.int 0))) (
   .ret [.lt (.str []), .var 0, .var 1, .var 2]) (
   .guard (.e2 .ile (.lt (.int 0)) (.e2 (.add .i64) (.var 1) (.var 3))) <|
   .guard (.e2 .ile (.e2 (.add .i64) (.var 1) (.var 3)) (.e1 .slen (.var 0))) <|
   .guard (.e2 .ile (.lt (.int 0)) (.e2 (.sub .i64) (.e2 (.add .i64) (.var 1) (.var 3)) (.var 3))) <|
   .guard (.e2 .ile (.e2 (.sub .i64) (.e2 (.add .i64) (.var 1) (.var 3)) (.var 3)) (.e2 (.add .i64) (.var 1) (.var 3))) <|
   .ret [.e3 .ssub (.var 0) (.e2 (.sub .i64) (.e2 (.add .i64) (.var 1) (.var 3)) (.var 3)) (.e2 (.add .i64) (.var 1) (.var 3)), .var 0, .e2 (.add .i64) (.var 1) (.var 3), .var 2]))
theorem h72 : symFn K [] 72 = .ok t72 := by kernel_rfl

/-- (*pagemend/pagemendref05.cursor).number -/
def t73 : Tree :=
 .ite (.e2 .ine (.var 2) (.lt (.int 0))) (
  .ret [.lt (.int 0), .var 0, .var 1, .var 2]) (
  .call 25 [.var 0, .var 1, .var 3] 2 <|
  .ite (.e2 .ine (.var 5) (.lt (.int 0))) (
   .ret [.lt (.int 0), .var 0, .var 1, .var 5]) (
   .ret [.var 4, .var 0, .e2 (.add .i64) (.var 1) (.var 3), .var 2]))
theorem h73 : symFn K [] 73 = .ok t73 := by kernel_rfl

/-- (*pagemend/pagemendref05.cursor).cell -/
def t74 : Tree :=
 .call 73 [.var 0, .var 1, .var 2, .lt (.int 1)] 4 <|
 .ite (.e2 .ine (.var 6) (.lt (.int 0))) (
  .ret [.lt (.bool false), .lt (.str []), .var 4, .var 5, .var 6]) (
  .ite (.e2 .ieq (.var 3) (.lt (.int 255))) (
   .ret [.lt (.bool false), .lt (.str []), .var 4, .var 5, .var 6]) (
   .ite (.e2 .igt (.var 3) (.lt (.int 12))) (
    .ret [.lt (.bool false), .lt (.str []), .var 4, .var 5, .lt (.int 4)]) (
    .call 75 [.var 4, .var 5, .var 6, .var 3] 4 <|
    .ret [.lt (.bool true), .var 7, .var 8, .var 9, .var 10])))
theorem h74 : symFn K [] 74 = .ok t74 := by kernel_rfl

/-- (*pagemend/pagemendref05.cursor).bytes -/
def t75 : Tree :=
 .ite (.e2 .ine (.var 2) (.lt (.int 0))) (
  .ret [.lt (.str []), .var 0, .var 1, .var 2]) (
  .ite (.e2 .igt (.var 3) (.e2 (.sub .i64) (.e1 .slen (.var 0)) (.var 1))) (
   .ret [.lt (.str []), .var 0, .var 1, .lt (.int 5)]) (
   .guard (.e2 .ile (.lt (.int 0)) (.e2 (.add .i64) (.var 1) (.var 3))) <|
   .guard (.e2 .ile (.e2 (.add .i64) (.var 1) (.var 3)) (.e1 .slen (.var 0))) <|
   .guard (.e2 .ile (.lt (.int 0)) (.e2 (.sub .i64) (.e2 (.add .i64) (.var 1) (.var 3)) (.var 3))) <|
   .guard (.e2 .ile (.e2 (.sub .i64) (.e2 (.add .i64) (.var 1) (.var 3)) (.var 3)) (.e2 (.add .i64) (.var 1) (.var 3))) <|
   .ret [.e3 .ssub (.var 0) (.e2 (.sub .i64) (.e2 (.add .i64) (.var 1) (.var 3)) (.var 3)) (.e2 (.add .i64) (.var 1) (.var 3)), .var 0, .e2 (.add .i64) (.var 1) (.var 3), .var 2]))
theorem h75 : symFn K [] 75 = .ok t75 := by kernel_rfl

/-- pagemend/entry.put -/
def t76 : Tree :=
 .ite (.e1 .not (.var 1)) (
  .call 22 [.var 0, .lt (.int 255), .lt (.int 1)] 1 <|
  .ret [.var 3]) (
  .call 22 [.var 0, .e1 .slen (.var 2), .lt (.int 1)] 1 <|
  .guard (.e2 .ile (.e2 (.add .i64) (.e1 .slen (.var 3)) (.e1 .slen (.var 2))) (.lt (.int 140737488355328))) <|
  .guard (.e2 .ile (.e1 .slen (.var 3)) (.lt (.int 140737488355328))) <|
  .guard (.e2 .ile (.e1 .slen (.var 2)) (.lt (.int 140737488355328))) <|
  .ret [.e2 .cat (.var 3) (.var 2)])
theorem h76 : symFn K [] 76 = .ok t76 := by kernel_rfl

/-- pagemend/entry.before -/
def t77 : Tree :=
 .ite (.e2 .ige (.var 0) (.lt (.int 0))) (
  .ret [.e2 .ilt (.var 0) (.var 1)]) (
  .ret [.lt (.bool false)])
theorem h77 : symFn K [] 77 = .ok t77 := by kernel_rfl

/-- pagemend/entry.rules -/
def t78 : Tree :=
 .ret [.e3 .lset (.e3 .lset (.e3 .lset (.e3 .lset (.e3 .lset (.e3 .lset (.e3 .lset (.e3 .lset (.e2 .rep (.lt (.int 9)) (.e2 .addc (.e2 .addc (.e2 .addc (.e2 .addc (.e2 .addc (.e2 .addc (.e1 .one (.lt (.bool false))) (.lt (.bool false))) (.lt (.bool false))) (.lt (.bool false))) (.lt (.bool false))) (.lt .nofn)) (.lt .nofn))) (.lt (.int 1)) (.e2 .addc (.e2 .addc (.e2 .addc (.e2 .addc (.e2 .addc (.e2 .addc (.e1 .one (.lt (.bool true))) (.lt (.bool false))) (.lt (.bool true))) (.lt (.bool false))) (.lt (.bool false))) (.lt (.fn 95))) (.lt (.fn 97)))) (.lt (.int 2)) (.e2 .addc (.e2 .addc (.e2 .addc (.e2 .addc (.e2 .addc (.e2 .addc (.e1 .one (.lt (.bool true))) (.lt (.bool true))) (.lt (.bool true))) (.lt (.bool true))) (.lt (.bool false))) (.lt (.fn 98))) (.lt (.fn 97)))) (.lt (.int 3)) (.e2 .addc (.e2 .addc (.e2 .addc (.e2 .addc (.e2 .addc (.e2 .addc (.e1 .one (.lt (.bool true))) (.lt (.bool true))) (.lt (.bool false))) (.lt (.bool false))) (.lt (.bool false))) (.lt (.fn 95))) (.lt (.fn 96)))) (.lt (.int 4)) (.e2 .addc (.e2 .addc (.e2 .addc (.e2 .addc (.e2 .addc (.e2 .addc (.e1 .one (.lt (.bool true))) (.lt (.bool true))) (.lt (.bool false))) (.lt (.bool false))) (.lt (.bool false))) (.lt (.fn 95))) (.lt (.fn 96)))) (.lt (.int 5)) (.e2 .addc (.e2 .addc (.e2 .addc (.e2 .addc (.e2 .addc (.e2 .addc (.e1 .one (.lt (.bool true))) (.lt (.bool true))) (.lt (.bool false))) (.lt (.bool false))) (.lt (.bool false))) (.lt (.fn 95))) (.lt (.fn 96)))) (.lt (.int 6)) (.e2 .addc (.e2 .addc (.e2 .addc (.e2 .addc (.e2 .addc (.e2 .addc (.e1 .one (.lt (.bool false))) (.lt (.bool false))) (.lt (.bool false))) (.lt (.bool false))) (.lt (.bool true))) (.lt (.fn 95))) (.lt (.fn 96)))) (.lt (.int 7)) (.e2 .addc (.e2 .addc (.e2 .addc (.e2 .addc (.e2 .addc (.e2 .addc (.e1 .one (.lt (.bool false))) (.lt (.bool false))) (.lt (.bool false))) (.lt (.bool true))) (.lt (.bool false))) (.lt (.fn 95))) (.lt (.fn 99)))) (.lt (.int 8)) (.e2 .addc (.e2 .addc (.e2 .addc (.e2 .addc (.e2 .addc (.e2 .addc (.e1 .one (.lt (.bool false))) (.lt (.bool false))) (.lt (.bool false))) (.lt (.bool false))) (.lt (.bool true))) (.lt (.fn 95))) (.lt (.fn 96)))]
theorem h78 : symFn K [] 78 = .ok t78 := by kernel_rfl

/-- pagemend/pagemendref05.shape -/
def t79 : Tree :=
 .join 1 (
  .ite (.var 13) (
   .call 100 [.var 6, .var 7, .var 8, .var 9, .var 10, .var 11] 1 <|
   .ite (.e2 .ieq (.var 1) (.lt (.int 2))) (
    .ite (.var 14) (
     .ite (.e2 .igt (.var 3) (.lt (.int 0))) (
      .ite (.e2 .ige (.var 5) (.lt (.int 1))) (
       .ite (.e2 .ile (.var 5) (.var 3)) (
        .ite (.e2 .ige (.var 2) (.lt (.int 1))) (
         .ret [.var 0, .var 1, .var 2, .var 3, .var 4, .var 5, .var 6, .var 7, .var 8, .var 9, .var 10, .var 11, .lt (.str []), .e2 .ile (.var 2) (.lt (.int 1073741824))]) (
         .ret [.var 0, .var 1, .var 2, .var 3, .var 4, .var 5, .var 6, .var 7, .var 8, .var 9, .var 10, .var 11, .lt (.str []), .lt (.bool false)])) (
        .ret [.var 0, .var 1, .var 2, .var 3, .var 4, .var 5, .var 6, .var 7, .var 8, .var 9, .var 10, .var 11, .lt (.str []), .lt (.bool false)])) (
       .ret [.var 0, .var 1, .var 2, .var 3, .var 4, .var 5, .var 6, .var 7, .var 8, .var 9, .var 10, .var 11, .lt (.str []), .lt (.bool false)])) (
      .ret [.var 0, .var 1, .var 2, .var 3, .var 4, .var 5, .var 6, .var 7, .var 8, .var 9, .var 10, .var 11, .lt (.str []), .lt (.bool false)])) (
     .ret [.var 0, .var 1, .var 2, .var 3, .var 4, .var 5, .var 6, .var 7, .var 8, .var 9, .var 10, .var 11, .lt (.str []), .lt (.bool false)])) (
    .ite (.var 14) (
     .ite (.e2 .ige (.var 2) (.lt (.int 1))) (
      .ret [.var 0, .var 1, .var 2, .var 3, .var 4, .lt (.int 0), .var 6, .var 7, .var 8, .var 9, .var 10, .var 11, .lt (.str []), .e2 .ile (.var 2) (.lt (.int 1073741824))]) (
      .ret [.var 0, .var 1, .var 2, .var 3, .var 4, .lt (.int 0), .var 6, .var 7, .var 8, .var 9, .var 10, .var 11, .lt (.str []), .lt (.bool false)])) (
     .ret [.var 0, .var 1, .var 2, .var 3, .var 4, .lt (.int 0), .var 6, .var 7, .var 8, .var 9, .var 10, .var 11, .lt (.str []), .lt (.bool false)]))) (
   .ite (.e2 .ieq (.var 1) (.lt (.int 3))) (
    .ite (.e2 .ieq (.var 1) (.lt (.int 3))) (
     .ite (.e2 .ige (.var 2) (.lt (.int 1))) (
      .ite (.e2 .ile (.var 2) (.lt (.int 1073741824))) (
       .ret [.var 0, .var 1, .var 2, .var 3, .lt (.int 0), .lt (.int 0), .lt (.int 0), .lt (.int 0), .lt (.bool false), .lt (.str []), .lt (.bool false), .lt (.str []), .lt (.str []), .e2 .igt (.var 3) (.lt (.int 0))]) (
       .ret [.var 0, .var 1, .var 2, .var 3, .lt (.int 0), .lt (.int 0), .lt (.int 0), .lt (.int 0), .lt (.bool false), .lt (.str []), .lt (.bool false), .lt (.str []), .lt (.str []), .lt (.bool false)])) (
      .ret [.var 0, .var 1, .var 2, .var 3, .lt (.int 0), .lt (.int 0), .lt (.int 0), .lt (.int 0), .lt (.bool false), .lt (.str []), .lt (.bool false), .lt (.str []), .lt (.str []), .lt (.bool false)])) (
     .ite (.e2 .ieq (.var 1) (.lt (.int 6))) (
      .ite (.e2 .ieq (.var 1) (.lt (.int 6))) (
       .ret [.var 0, .var 1, .lt (.int 0), .lt (.int 0), .lt (.int 0), .lt (.int 0), .lt (.int 0), .lt (.int 0), .lt (.bool false), .lt (.str []), .lt (.bool false), .lt (.str []), .var 12, .e2 .ile (.e1 .slen (.var 12)) (.lt (.int 8192))]) (
       .ite (.e2 .ieq (.var 1) (.lt (.int 7))) (
        .ite (.e2 .ige (.var 6) (.lt (.int 0))) (
         .ret [.var 0, .var 1, .lt (.int 0), .lt (.int 0), .lt (.int 0), .var 5, .var 6, .lt (.int 0), .lt (.bool false), .lt (.str []), .lt (.bool false), .lt (.str []), .lt (.str []), .e2 .ilt (.var 6) (.lt (.int 64))]) (
         .ret [.var 0, .var 1, .lt (.int 0), .lt (.int 0), .lt (.int 0), .var 5, .var 6, .lt (.int 0), .lt (.bool false), .lt (.str []), .lt (.bool false), .lt (.str []), .lt (.str []), .lt (.bool false)])) (
        .ret [.var 0, .var 1, .lt (.int 0), .lt (.int 0), .lt (.int 0), .lt (.int 0), .lt (.int 0), .lt (.int 0), .lt (.bool false), .lt (.str []), .lt (.bool false), .lt (.str []), .lt (.str []), .lt (.bool false)]))) (
      .ite (.e2 .ieq (.var 1) (.lt (.int 8))) (
       .ret [.var 0, .var 1, .lt (.int 0), .lt (.int 0), .lt (.int 0), .lt (.int 0), .lt (.int 0), .lt (.int 0), .lt (.bool false), .lt (.str []), .lt (.bool false), .lt (.str []), .var 12, .e2 .ile (.e1 .slen (.var 12)) (.lt (.int 8192))]) (
       .ite (.e2 .ieq (.var 1) (.lt (.int 7))) (
        .ite (.e2 .ige (.var 6) (.lt (.int 0))) (
         .ret [.var 0, .var 1, .lt (.int 0), .lt (.int 0), .lt (.int 0), .var 5, .var 6, .lt (.int 0), .lt (.bool false), .lt (.str []), .lt (.bool false), .lt (.str []), .lt (.str []), .e2 .ilt (.var 6) (.lt (.int 64))]) (
         .ret [.var 0, .var 1, .lt (.int 0), .lt (.int 0), .lt (.int 0), .var 5, .var 6, .lt (.int 0), .lt (.bool false), .lt (.str []), .lt (.bool false), .lt (.str []), .lt (.str []), .lt (.bool false)])) (
        .ret [.var 0, .var 1, .lt (.int 0), .lt (.int 0), .lt (.int 0), .lt (.int 0), .lt (.int 0), .lt (.int 0), .lt (.bool false), .lt (.str []), .lt (.bool false), .lt (.str []), .lt (.str []), .lt (.bool false)]))))) (
    .ite (.e2 .ieq (.var 1) (.lt (.int 4))) (
     .ite (.e2 .ieq (.var 1) (.lt (.int 4))) (
      .ite (.e2 .ige (.var 2) (.lt (.int 1))) (
       .ite (.e2 .ile (.var 2) (.lt (.int 1073741824))) (
        .ret [.var 0, .var 1, .var 2, .var 3, .lt (.int 0), .lt (.int 0), .lt (.int 0), .lt (.int 0), .lt (.bool false), .lt (.str []), .lt (.bool false), .lt (.str []), .lt (.str []), .e2 .igt (.var 3) (.lt (.int 0))]) (
        .ret [.var 0, .var 1, .var 2, .var 3, .lt (.int 0), .lt (.int 0), .lt (.int 0), .lt (.int 0), .lt (.bool false), .lt (.str []), .lt (.bool false), .lt (.str []), .lt (.str []), .lt (.bool false)])) (
       .ret [.var 0, .var 1, .var 2, .var 3, .lt (.int 0), .lt (.int 0), .lt (.int 0), .lt (.int 0), .lt (.bool false), .lt (.str []), .lt (.bool false), .lt (.str []), .lt (.str []), .lt (.bool false)])) (
      .ite (.e2 .ieq (.var 1) (.lt (.int 6))) (
       .ite (.e2 .ieq (.var 1) (.lt (.int 6))) (
        .ret [.var 0, .var 1, .lt (.int 0), .lt (.int 0), .lt (.int 0), .lt (.int 0), .lt (.int 0), .lt (.int 0), .lt (.bool false), .lt (.str []), .lt (.bool false), .lt (.str []), .var 12, .e2 .ile (.e1 .slen (.var 12)) (.lt (.int 8192))]) (
        .ite (.e2 .ieq (.var 1) (.lt (.int 7))) (
         .ite (.e2 .ige (.var 6) (.lt (.int 0))) (
          .ret [.var 0, .var 1, .lt (.int 0), .lt (.int 0), .lt (.int 0), .var 5, .var 6, .lt (.int 0), .lt (.bool false), .lt (.str []), .lt (.bool false), .lt (.str []), .lt (.str []), .e2 .ilt (.var 6) (.lt (.int 64))]) (
          .ret [.var 0, .var 1, .lt (.int 0), .lt (.int 0), .lt (.int 0), .var 5, .var 6, .lt (.int 0), .lt (.bool false), .lt (.str []), .lt (.bool false), .lt (.str []), .lt (.str []), .lt (.bool false)])) (
         .ret [.var 0, .var 1, .lt (.int 0), .lt (.int 0), .lt (.int 0), .lt (.int 0), .lt (.int 0), .lt (.int 0), .lt (.bool false), .lt (.str []), .lt (.bool false), .lt (.str []), .lt (.str []), .lt (.bool false)]))) (
       .ite (.e2 .ieq (.var 1) (.lt (.int 8))) (
        .ret [.var 0, .var 1, .lt (.int 0), .lt (.int 0), .lt (.int 0), .lt (.int 0), .lt (.int 0), .lt (.int 0), .lt (.bool false), .lt (.str []), .lt (.bool false), .lt (.str []), .var 12, .e2 .ile (.e1 .slen (.var 12)) (.lt (.int 8192))]) (
        .ite (.e2 .ieq (.var 1) (.lt (.int 7))) (
         .ite (.e2 .ige (.var 6) (.lt (.int 0))) (
          .ret [.var 0, .var 1, .lt (.int 0), .lt (.int 0), .lt (.int 0), .var 5, .var 6, .lt (.int 0), .lt (.bool false), .lt (.str []), .lt (.bool false), .lt (.str []), .lt (.str []), .e2 .ilt (.var 6) (.lt (.int 64))]) (
          .ret [.var 0, .var 1, .lt (.int 0), .lt (.int 0), .lt (.int 0), .var 5, .var 6, .lt (.int 0), .lt (.bool false), .lt (.str []), .lt (.bool false), .lt (.str []), .lt (.str []), .lt (.bool false)])) (
         .ret [.var 0, .var 1, .lt (.int 0), .lt (.int 0), .lt (.int 0), .lt (.int 0), .lt (.int 0), .lt (.int 0), .lt (.bool false), .lt (.str []), .lt (.bool false), .lt (.str []), .lt (.str []), .lt (.bool false)]))))) (
     .ite (.e2 .ieq (.var 1) (.lt (.int 5))) (
      .ite (.e2 .ige (.var 2) (.lt (.int 1))) (
       .ite (.e2 .ile (.var 2) (.lt (.int 1073741824))) (
        .ret [.var 0, .var 1, .var 2, .var 3, .lt (.int 0), .lt (.int 0), .lt (.int 0), .lt (.int 0), .lt (.bool false), .lt (.str []), .lt (.bool false), .lt (.str []), .lt (.str []), .e2 .igt (.var 3) (.lt (.int 0))]) (
        .ret [.var 0, .var 1, .var 2, .var 3, .lt (.int 0), .lt (.int 0), .lt (.int 0), .lt (.int 0), .lt (.bool false), .lt (.str []), .lt (.bool false), .lt (.str []), .lt (.str []), .lt (.bool false)])) (
       .ret [.var 0, .var 1, .var 2, .var 3, .lt (.int 0), .lt (.int 0), .lt (.int 0), .lt (.int 0), .lt (.bool false), .lt (.str []), .lt (.bool false), .lt (.str []), .lt (.str []), .lt (.bool false)])) (
      .ite (.e2 .ieq (.var 1) (.lt (.int 6))) (
       .ite (.e2 .ieq (.var 1) (.lt (.int 6))) (
        .ret [.var 0, .var 1, .lt (.int 0), .lt (.int 0), .lt (.int 0), .lt (.int 0), .lt (.int 0), .lt (.int 0), .lt (.bool false), .lt (.str []), .lt (.bool false), .lt (.str []), .var 12, .e2 .ile (.e1 .slen (.var 12)) (.lt (.int 8192))]) (
        .ite (.e2 .ieq (.var 1) (.lt (.int 7))) (
         .ite (.e2 .ige (.var 6) (.lt (.int 0))) (
          .ret [.var 0, .var 1, .lt (.int 0), .lt (.int 0), .lt (.int 0), .var 5, .var 6, .lt (.int 0), .lt (.bool false), .lt (.str []), .lt (.bool false), .lt (.str []), .lt (.str []), .e2 .ilt (.var 6) (.lt (.int 64))]) (
          .ret [.var 0, .var 1, .lt (.int 0), .lt (.int 0), .lt (.int 0), .var 5, .var 6, .lt (.int 0), .lt (.bool false), .lt (.str []), .lt (.bool false), .lt (.str []), .lt (.str []), .lt (.bool false)])) (
         .ret [.var 0, .var 1, .lt (.int 0), .lt (.int 0), .lt (.int 0), .lt (.int 0), .lt (.int 0), .lt (.int 0), .lt (.bool false), .lt (.str []), .lt (.bool false), .lt (.str []), .lt (.str []), .lt (.bool false)]))) (
       .ite (.e2 .ieq (.var 1) (.lt (.int 8))) (
        .ret [.var 0, .var 1, .lt (.int 0), .lt (.int 0), .lt (.int 0), .lt (.int 0), .lt (.int 0), .lt (.int 0), .lt (.bool false), .lt (.str []), .lt (.bool false), .lt (.str []), .var 12, .e2 .ile (.e1 .slen (.var 12)) (.lt (.int 8192))]) (
        .ite (.e2 .ieq (.var 1) (.lt (.int 7))) (
         .ite (.e2 .ige (.var 6) (.lt (.int 0))) (
          .ret [.var 0, .var 1, .lt (.int 0), .lt (.int 0), .lt (.int 0), .var 5, .var 6, .lt (.int 0), .lt (.bool false), .lt (.str []), .lt (.bool false), .lt (.str []), .lt (.str []), .e2 .ilt (.var 6) (.lt (.int 64))]) (
          .ret [.var 0, .var 1, .lt (.int 0), .lt (.int 0), .lt (.int 0), .var 5, .var 6, .lt (.int 0), .lt (.bool false), .lt (.str []), .lt (.bool false), .lt (.str []), .lt (.str []), .lt (.bool false)])) (
         .ret [.var 0, .var 1, .lt (.int 0), .lt (.int 0), .lt (.int 0), .lt (.int 0), .lt (.int 0), .lt (.int 0), .lt (.bool false), .lt (.str []), .lt (.bool false), .lt (.str []), .lt (.str []), .lt (.bool false)])))))))) <|
 .ite (.e2 .ieq (.var 1) (.lt (.int 1))) (
  .jump 0 [.e2 .ieq (.var 1) (.lt (.int 1))]) (
  .jump 0 [.e2 .ieq (.var 1) (.lt (.int 2))])
theorem h79 : symFn K [(1000005, [.live 13])] 79 = .ok t79 := by kernel_rfl

/-- pagemend/pagemendref05.before -/
def t80 : Tree :=
 .ite (.e2 .ige (.var 0) (.lt (.int 0))) (
  .ret [.e2 .ilt (.var 0) (.var 1)]) (
  .ret [.lt (.bool false)])
theorem h80 : symFn K [] 80 = .ok t80 := by kernel_rfl

/-- (*pagemend/pagemenddraw.Codes).Int -/
def t81 : Tree :=
 .call 30 [.var 0, .var 1, .lt (.int 10)] 3 <|
 .ite (.e2 .ieq (.var 2) (.lt (.int 0))) (
  .call 30 [.var 3, .var 4, .lt (.int 3)] 3 <|
  .ret [.e2 (.sub .i64) (.lt (.int (-1))) (.var 5), .var 6, .var 7]) (
  .ite (.e2 .ieq (.var 2) (.lt (.int 1))) (
   .call 30 [.var 3, .var 4, .lt (.int 16)] 3 <|
   .guard (.e2 .ile (.lt (.int 0)) (.var 5)) <|
   .guard (.e2 .ilt (.var 5) (.e1 .llen (.e2 .app (.e1 .one (.lt (.int 9223372036854775807))) (.e2 .app (.e1 .one (.lt (.int (-9223372036854775808)))) (.e2 .app (.e1 .one (.lt (.int 1099511627776))) (.e2 .app (.e1 .one (.lt (.int 1099511627777))) (.e2 .app (.e1 .one (.lt (.int 1073741824))) (.e2 .app (.e1 .one (.lt (.int 1073741825))) (.e2 .app (.e1 .one (.lt (.int 64))) (.e2 .app (.e1 .one (.lt (.int 63))) (.e2 .app (.e1 .one (.lt (.int 16))) (.e2 .app (.e1 .one (.lt (.int 15))) (.e2 .app (.e1 .one (.lt (.int 256))) (.e2 .app (.e1 .one (.lt (.int 255))) (.e2 .app (.e1 .one (.lt (.int 4294967296))) (.e2 .app (.e1 .one (.lt (.int 65536))) (.e2 .app (.e1 .one (.lt (.int 256))) (.e2 .app (.e1 .one (.lt (.int 255))) (.lt .nil))))))))))))))))))) <|
   .ret [.e1 (.cell 0) (.e2 .row (.e2 .app (.e1 .one (.lt (.int 9223372036854775807))) (.e2 .app (.e1 .one (.lt (.int (-9223372036854775808)))) (.e2 .app (.e1 .one (.lt (.int 1099511627776))) (.e2 .app (.e1 .one (.lt (.int 1099511627777))) (.e2 .app (.e1 .one (.lt (.int 1073741824))) (.e2 .app (.e1 .one (.lt (.int 1073741825))) (.e2 .app (.e1 .one (.lt (.int 64))) (.e2 .app (.e1 .one (.lt (.int 63))) (.e2 .app (.e1 .one (.lt (.int 16))) (.e2 .app (.e1 .one (.lt (.int 15))) (.e2 .app (.e1 .one (.lt (.int 256))) (.e2 .app (.e1 .one (.lt (.int 255))) (.e2 .app (.e1 .one (.lt (.int 4294967296))) (.e2 .app (.e1 .one (.lt (.int 65536))) (.e2 .app (.e1 .one (.lt (.int 256))) (.e2 .app (.e1 .one (.lt (.int 255))) (.lt .nil))))))))))))))))) (.var 5)), .var 6, .var 7]) (
   .call 30 [.var 3, .var 4, .lt (.int 20)] 3 <|
   .ret [.var 5, .var 6, .var 7]))
theorem h81 : symFn K [] 81 = .ok t81 := by kernel_rfl

/-- (*pagemend/pagemenddraw.Codes).OddChange -/
def t82 : Tree :=
 .call 30 [.var 0, .var 1, .lt (.int 4)] 3 <|
 .ite (.e2 .ieq (.var 8) (.lt (.int 0))) (
  .call 81 [.var 9, .var 10] 3 <|
  .ret [.var 11, .var 3, .var 4, .var 5, .var 6, .var 7, .var 12, .var 13]) (
  .ite (.e2 .ieq (.var 8) (.lt (.int 1))) (
   .call 81 [.var 9, .var 10] 3 <|
   .ret [.var 2, .var 11, .var 4, .var 5, .var 6, .var 7, .var 12, .var 13]) (
   .ite (.e2 .ieq (.var 8) (.lt (.int 2))) (
    .call 30 [.var 9, .var 10, .lt (.int 2)] 3 <|
    .call 69 [.var 12, .var 13] 3 <|
    .ret [.var 2, .var 3, .e2 .ieq (.var 11) (.lt (.int 1)), .var 14, .var 6, .var 7, .var 15, .var 16]) (
    .ite (.e2 .ieq (.var 8) (.lt (.int 3))) (
     .call 30 [.var 9, .var 10, .lt (.int 2)] 3 <|
     .call 69 [.var 12, .var 13] 3 <|
     .ret [.var 2, .var 3, .var 4, .var 5, .e2 .ieq (.var 11) (.lt (.int 1)), .var 14, .var 15, .var 16]) (
     .ret [.var 2, .var 3, .var 4, .var 5, .var 6, .var 7, .var 9, .var 10]))))
theorem h82 : symFn K [] 82 = .ok t82 := by kernel_rfl

/-- pagemend/journal.New -/
def t83 : Tree :=
 .ret [.lt (.int 1), .lt .nil, .lt (.int 0)]
theorem h83 : symFn K [] 83 = .ok t83 := by kernel_rfl

/-- pagemend/journal.Last -/
def t84 : Tree :=
 .call 86 [.var 0, .var 1, .var 2] 1 <|
 .ite (.e1 .not (.var 3)) (
  .ret [.lt (.int 0)]) (
  .call 87 [.var 0, .var 1, .var 2] 1 <|
  .ret [.var 4])
theorem h84 : symFn K [] 84 = .ok t84 := by kernel_rfl

/-- pagemend/journal.Bytes -/
def t85 : Tree :=
 .call 86 [.var 0, .var 1, .var 2] 1 <|
 .ite (.e1 .not (.var 3)) (
  .ret [.lt (.str [])]) (
  .call 101 [.var 0, .var 1, .var 2] 1 <|
  .call 102 [.var 1] 1 <|
  .guard (.e2 .ile (.e2 (.add .i64) (.e1 .slen (.var 4)) (.e1 .slen (.var 5))) (.lt (.int 140737488355328))) <|
  .guard (.e2 .ile (.e1 .slen (.var 4)) (.lt (.int 140737488355328))) <|
  .guard (.e2 .ile (.e1 .slen (.var 5)) (.lt (.int 140737488355328))) <|
  .ret [.e2 .cat (.var 4) (.var 5)])
theorem h85 : symFn K [] 85 = .ok t85 := by kernel_rfl

/-- pagemend/journal.Valid -/
def t86 : Tree :=
 .ite (.e2 .ilt (.var 0) (.lt (.int 1))) (
  .ret [.lt (.bool false)]) (
  .ite (.e2 .igt (.var 0) (.lt (.int 1099511627776))) (
   .ret [.lt (.bool false)]) (
   .ite (.e2 .igt (.e1 .llen (.var 1)) (.lt (.int 4096))) (
    .ret [.lt (.bool false)]) (
    .ite (.e2 .ilt (.var 2) (.e2 (.sub .i64) (.var 0) (.lt (.int 1)))) (
     .ret [.lt (.bool false)]) (
     .call 87 [.var 0, .var 1, .var 2] 1 <|
     .ite (.e2 .igt (.var 2) (.var 3)) (
      .ret [.lt (.bool false)]) (
      .join 1 (
       .ite (.e2 .ilt (.var 4) (.e1 .llen (.var 1))) (
        .guard (.e2 .ile (.lt (.int 0)) (.var 4)) <|
        .guard (.e2 .ilt (.var 4) (.e1 .llen (.var 1))) <|
        .ite (.e2 .ine (.e1 (.cell 0) (.e2 .row (.var 1) (.var 4))) (.e2 (.add .i64) (.var 0) (.var 4))) (
         .ret [.lt (.bool false)]) (
         .call 44 [.e1 (.cell 0) (.e2 .row (.var 1) (.var 4)), .e1 (.cell 1) (.e2 .row (.var 1) (.var 4)), .e1 (.cell 2) (.e2 .row (.var 1) (.var 4)), .e1 (.cell 3) (.e2 .row (.var 1) (.var 4)), .e1 (.cell 4) (.e2 .row (.var 1) (.var 4)), .e1 (.cell 5) (.e2 .row (.var 1) (.var 4)), .e1 (.cell 6) (.e2 .row (.var 1) (.var 4)), .e1 (.cell 7) (.e2 .row (.var 1) (.var 4)), .e1 (.cell 8) (.e2 .row (.var 1) (.var 4)), .e1 (.cell 9) (.e2 .row (.var 1) (.var 4)), .e1 (.cell 10) (.e2 .row (.var 1) (.var 4)), .e1 (.cell 11) (.e2 .row (.var 1) (.var 4)), .e1 (.cell 12) (.e2 .row (.var 1) (.var 4))] 1 <|
         .ite (.e1 .not (.var 5)) (
          .ret [.lt (.bool false)]) (
          .jump 0 [.e2 (.add .i64) (.var 4) (.lt (.int 1))]))) (
        .ret [.lt (.bool true)])) <|
      .jump 0 [.lt (.int 0)])))))
theorem h86 : symFn K [(4, [.live 37])] 86 = .ok t86 := by kernel_rfl

/-- pagemend/journal.end -/
def t87 : Tree :=
 .ret [.e2 (.sub .i64) (.e2 (.add .i64) (.var 0) (.e1 .llen (.var 1))) (.lt (.int 1))]
theorem h87 : symFn K [] 87 = .ok t87 := by kernel_rfl

/-- slices.Clip[[]pagemend/api.Entry,pagemend/api.Entry] -/
def t88 : Tree :=
 .guard (.e2 .ile (.lt (.int 0)) (.e1 .llen (.var 0))) <|
 .guard (.e2 .ile (.e1 .llen (.var 0)) (.e1 .llen (.var 0))) <|
 .guard (.e2 .ile (.lt (.int 0)) (.e1 .llen (.var 0))) <|
 .guard (.e2 .ieq (.e1 .llen (.var 0)) (.e1 .llen (.var 0))) <|
 .ret [.e3 .lsub (.var 0) (.lt (.int 0)) (.e1 .llen (.var 0))]
theorem h88 : symFn K [] 88 = .ok t88 := by kernel_rfl

/-- slices.Clone[[]pagemend/api.Entry,pagemend/api.Entry] -/
def t89 : Tree :=
 .ite (.e2 .ieq (.e1 .llen (.var 0)) (.lt (.int 0))) (
  .any <|
  .ite (.e2 .beq (.var 1) (.lt (.bool true))) (
   .ret [.lt .nil]) (
   .guard (.e2 .ile (.e1 .llen (.e2 .app (.lt .nil) (.var 0))) (.lt (.int 1099511627776))) <|
   .ret [.e2 .app (.lt .nil) (.var 0)])) (
  .guard (.e2 .ile (.e1 .llen (.e2 .app (.lt .nil) (.var 0))) (.lt (.int 1099511627776))) <|
  .ret [.e2 .app (.lt .nil) (.var 0)])
theorem h89 : symFn K [] 89 = .ok t89 := by kernel_rfl

/-- slices.Contains[[]bool,bool] -/
def t90 : Tree :=
 .call 62 [.var 0, .var 1] 1 <|
 .ret [.e2 .ige (.var 2) (.lt (.int 0))]
theorem h90 : symFn K [] 90 = .ok t90 := by kernel_rfl

/-- slices.Index[[]int,int] -/
def t92 : Tree :=
 .join 1 (
  .ite (.e2 .ilt (.var 2) (.e1 .llen (.var 0))) (
   .guard (.e2 .ile (.lt (.int 0)) (.var 2)) <|
   .guard (.e2 .ilt (.var 2) (.e1 .llen (.var 0))) <|
   .ite (.e2 .ieq (.var 1) (.e1 (.cell 0) (.e2 .row (.var 0) (.var 2)))) (
    .ret [.var 2]) (
    .jump 0 [.e2 (.add .i64) (.var 2) (.lt (.int 1))])) (
   .ret [.lt (.int (-1))])) <|
 .jump 0 [.lt (.int 0)]
theorem h92 : symFn K [(2, [.live 8])] 92 = .ok t92 := by kernel_rfl

/-- slices.IndexFunc[[]int,int] -/
def t93 : Tree :=
 .join 1 (
  .ite (.e2 .ilt (.var 2) (.e1 .llen (.var 0))) (
   .guard (.e2 .ile (.lt (.int 0)) (.var 2)) <|
   .guard (.e2 .ilt (.var 2) (.e1 .llen (.var 0))) <|
   .callv ⟨[.val false [(.int .i64, false)]], [.val false [(.bool, false)]]⟩ (.var 1) [.e1 (.cell 0) (.e2 .row (.var 0) (.var 2))] 1 <|
   .ite (.var 3) (
    .ret [.var 2]) (
    .jump 0 [.e2 (.add .i64) (.var 2) (.lt (.int 1))])) (
   .ret [.lt (.int (-1))])) <|
 .jump 0 [.lt (.int 0)]
theorem h93 : symFn K [(2, [.live 8])] 93 = .ok t93 := by kernel_rfl

/-- (*pagemend/pagemenddraw.Codes).Cell -/
def t94 : Tree :=
 .call 30 [.var 0, .var 1, .lt (.int 3)] 3 <|
 .ite (.e2 .ieq (.var 2) (.lt (.int 0))) (
  .ret [.lt (.bool false), .lt (.str []), .var 3, .var 4]) (
  .call 69 [.var 3, .var 4] 3 <|
  .guard (.e2 .ile (.lt (.int 0)) (.e2 .min (.e1 .slen (.var 5)) (.lt (.int 12)))) <|
  .guard (.e2 .ile (.e2 .min (.e1 .slen (.var 5)) (.lt (.int 12))) (.e1 .slen (.var 5))) <|
  .guard (.e2 .ile (.lt (.int 0)) (.e2 .min (.e1 .slen (.var 5)) (.lt (.int 12)))) <|
  .ret [.lt (.bool true), .e3 .ssub (.var 5) (.lt (.int 0)) (.e2 .min (.e1 .slen (.var 5)) (.lt (.int 12))), .var 6, .var 7])
theorem h94 : symFn K [] 94 = .ok t94 := by kernel_rfl

/-- pagemend/entry.rules$1 -/
def t95 : Tree :=
 .ret [.lt (.bool true)]
theorem h95 : symFn K [] 95 = .ok t95 := by kernel_rfl

/-- pagemend/entry.none -/
def t96 : Tree :=
 .ret [.e2 .deq (.e2 .addc (.e2 .addc (.e2 .addc (.e2 .addc (.e2 .addc (.e1 .one (.var 0)) (.var 1)) (.var 2)) (.var 3)) (.var 4)) (.var 5)) (.e2 .addc (.e2 .addc (.e2 .addc (.e2 .addc (.e2 .addc (.e1 .one (.lt (.int 0))) (.lt (.int 0))) (.lt (.bool false))) (.lt (.str []))) (.lt (.bool false))) (.lt (.str [])))]
theorem h96 : symFn K [] 96 = .ok t96 := by kernel_rfl

/-- pagemend/change.Valid -/
def t97 : Tree :=
 .call 104 [.var 0] 1 <|
 .ite (.var 6) (
  .ite (.e2 .ige (.var 1) (.lt (.int 0))) (
   .ite (.e2 .ilt (.var 1) (.lt (.int 16))) (
    .call 105 [.var 2, .var 3] 1 <|
    .ite (.var 7) (
     .call 105 [.var 4, .var 5] 1 <|
     .ret [.var 8]) (
     .ret [.lt (.bool false)])) (
    .ret [.lt (.bool false)])) (
   .ret [.lt (.bool false)])) (
  .ret [.lt (.bool false)])
theorem h97 : symFn K [] 97 = .ok t97 := by kernel_rfl

/-- pagemend/entry.rules$2 -/
def t98 : Tree :=
 .ite (.e2 .ige (.var 5) (.lt (.int 1))) (
  .ret [.e2 .ile (.var 5) (.var 3)]) (
  .ret [.lt (.bool false)])
theorem h98 : symFn K [] 98 = .ok t98 := by kernel_rfl

/-- pagemend/entry.rules$3 -/
def t99 : Tree :=
 .ite (.e2 .deq (.e2 .addc (.e2 .addc (.e2 .addc (.e2 .addc (.e2 .addc (.e1 .one (.var 0)) (.var 1)) (.var 2)) (.var 3)) (.var 4)) (.var 5)) (.e2 .addc (.e2 .addc (.e2 .addc (.e2 .addc (.e2 .addc (.e1 .one (.var 0)) (.lt (.int 0))) (.lt (.bool false))) (.lt (.str []))) (.lt (.bool false))) (.lt (.str [])))) (
  .ite (.e2 .ige (.var 0) (.lt (.int 0))) (
   .ret [.e2 .ilt (.var 0) (.lt (.int 64))]) (
   .ret [.lt (.bool false)])) (
  .ret [.lt (.bool false)])
theorem h99 : symFn K [] 99 = .ok t99 := by kernel_rfl

/-- pagemend/pagemendref03.Valid -/
def t100 : Tree :=
 .ite (.e2 .ige (.var 0) (.lt (.int 0))) (
  .ite (.e2 .ilt (.var 0) (.lt (.int 64))) (
   .ite (.e2 .ige (.var 1) (.lt (.int 0))) (
    .ite (.e2 .ilt (.var 1) (.lt (.int 16))) (
     .call 106 [.var 2, .var 3] 1 <|
     .ite (.var 6) (
      .call 106 [.var 4, .var 5] 1 <|
      .ret [.var 7]) (
      .ret [.lt (.bool false)])) (
     .ret [.lt (.bool false)])) (
    .ret [.lt (.bool false)])) (
   .ret [.lt (.bool false)])) (
  .ret [.lt (.bool false)])
theorem h100 : symFn K [] 100 = .ok t100 := by kernel_rfl

/-- pagemend/journal.head -/
def t101 : Tree :=
 .call 22 [.lt (.str [80, 77, 76, 71]), .var 0, .lt (.int 8)] 1 <|
 .call 34 [.var 3] 1 <|
 .ret [.var 4]
theorem h101 : symFn K [] 101 = .ok t101 := by kernel_rfl

/-- pagemend/change.paged -/
def t104 : Tree :=
 .ite (.e2 .ige (.var 0) (.lt (.int 0))) (
  .ret [.e2 .ilt (.var 0) (.lt (.int 64))]) (
  .ret [.lt (.bool false)])
theorem h104 : symFn K [] 104 = .ok t104 := by kernel_rfl

/-- pagemend/change.ValidCell -/
def t105 : Tree :=
 .ite (.e2 .ile (.e1 .slen (.var 1)) (.lt (.int 12))) (
  .ite (.var 0) (
   .ret [.lt (.bool true)]) (
   .ret [.e2 .seq (.var 1) (.lt (.str []))])) (
  .ret [.lt (.bool false)])
theorem h105 : symFn K [] 105 = .ok t105 := by kernel_rfl

/-- pagemend/pagemendref02.ValidCell -/
def t106 : Tree :=
 .ite (.e2 .ile (.e1 .slen (.var 1)) (.lt (.int 12))) (
  .ite (.var 0) (
   .ret [.lt (.bool true)]) (
   .ret [.e2 .seq (.var 1) (.lt (.str []))])) (
  .ret [.lt (.bool false)])
theorem h106 : symFn K [] 106 = .ok t106 := by kernel_rfl

end Go.Proofs.Ytdjbjfmgdagcgaa
