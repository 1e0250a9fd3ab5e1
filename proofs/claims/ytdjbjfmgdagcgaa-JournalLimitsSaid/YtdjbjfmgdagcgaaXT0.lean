/- Trees of functions, checked against the program by the kernel. Printed by gen.py. -/
import Derived.Test.YtdjbjfmgdagcgaaXC
namespace Go.Proofs.Ytdjbjfmgdagcgaa
open Go.Fw
set_option maxRecDepth 100000
/-- pagemend/pagemendlaw34.SegmentsRanges -/
def t3 : Tree :=
 .call 16 [] 1 <|
 .ite (.e1 .not (.var 1)) (
  .ret [.lt (.bool false)]) (
  .call 17 [.e2 (.add .i64) (.lt (.int 1)) (.e2 .rem (.e1 (.conv .i64) (.var 0)) (.lt (.int 64)))] 4 <|
  .join 2 (
   .ite (.e2 .ilt (.var 7) (.e1 .llen (.var 3))) (
    .call 18 [.e2 (.add .i64) (.lt (.int 1)) (.e2 .rem (.e1 (.conv .i64) (.var 0)) (.lt (.int 64))), .var 7] 3 <|
    .ite (.e1 .not (.var 10)) (
     .ret [.lt (.bool false)]) (
     .ite (.e2 .ine (.var 8) (.var 6)) (
      .ret [.lt (.bool false)]) (
      .ite (.e2 .ilt (.var 9) (.var 8)) (
       .ret [.lt (.bool false)]) (
       .ite (.e2 .ige (.e2 (.sub .i64) (.var 9) (.var 8)) (.lt (.int 4))) (
        .ret [.lt (.bool false)]) (
        .join 1 (
         .ite (.e2 .ile (.var 11) (.var 9)) (
          .call 19 [.var 11] 1 <|
          .ite (.e2 .ine (.var 12) (.var 7)) (
           .ret [.lt (.bool false)]) (
           .call 20 [.var 2, .var 3, .var 4, .var 11] 1 <|
           .ite (.var 13) (
            .ret [.lt (.bool false)]) (
            .jump 1 [.e2 (.add .i64) (.var 11) (.lt (.int 1))]))) (
          .jump 0 [.e2 (.add .i64) (.var 9) (.lt (.int 1)), .e2 (.add .i64) (.var 7) (.lt (.int 1))])) <|
        .jump 1 [.var 8]))))) (
    .call 18 [.e2 (.add .i64) (.lt (.int 1)) (.e2 .rem (.e1 (.conv .i64) (.var 0)) (.lt (.int 64))), .e1 .llen (.var 3)] 3 <|
    .ite (.e2 .ieq (.var 5) (.lt (.int 0))) (
     .ite (.e2 .ieq (.var 6) (.e2 (.add .i64) (.lt (.int 1)) (.e2 .rem (.e1 (.conv .i64) (.var 0)) (.lt (.int 64))))) (
      .ret [.e1 .not (.var 10)]) (
      .ret [.lt (.bool false)])) (
     .ret [.lt (.bool false)]))) <|
  .jump 0 [.lt (.int 0), .lt (.int 0)])
theorem h3 : symFn K [(7, [.live 7, .live 6]), (13, [.live 11])] 3 = .ok t3 := by kernel_rfl

/-- pagemend/pagemendlaw01.CodecNumbers -/
def t4 : Tree :=
 .call 21 [] 1 <|
 .ite (.e1 .not (.var 5)) (
  .ret [.e2 .igt (.e1 .slen (.var 0)) (.lt (.int 400))]) (
  .ite (.e2 .igt (.e1 .slen (.var 0)) (.lt (.int 400))) (
   .ret [.e2 .igt (.e1 .slen (.var 0)) (.lt (.int 400))]) (
   .join 1 (
    .ite (.e2 .ilt (.var 6) (.e1 .llen (.e2 .app (.e1 .one (.var 3)) (.e2 .app (.e1 .one (.e2 .rem (.e1 (.conv .i64) (.var 4)) (.lt (.int 11)))) (.e2 .app (.e1 .one (.lt (.int 8))) (.lt .nil)))))) (
     .guard (.e2 .ile (.lt (.int 0)) (.var 6)) <|
     .guard (.e2 .ilt (.var 6) (.e1 .llen (.e2 .app (.e1 .one (.var 3)) (.e2 .app (.e1 .one (.e2 .rem (.e1 (.conv .i64) (.var 4)) (.lt (.int 11)))) (.e2 .app (.e1 .one (.lt (.int 8))) (.lt .nil)))))) <|
     .call 22 [.var 0, .var 1, .e1 (.cell 0) (.e2 .row (.e2 .app (.e1 .one (.var 3)) (.e2 .app (.e1 .one (.e2 .rem (.e1 (.conv .i64) (.var 4)) (.lt (.int 11)))) (.e2 .app (.e1 .one (.lt (.int 8))) (.lt .nil)))) (.var 6))] 1 <|
     .call 23 [.var 0, .var 1, .e1 (.cell 0) (.e2 .row (.e2 .app (.e1 .one (.var 3)) (.e2 .app (.e1 .one (.e2 .rem (.e1 (.conv .i64) (.var 4)) (.lt (.int 11)))) (.e2 .app (.e1 .one (.lt (.int 8))) (.lt .nil)))) (.var 6))] 1 <|
     .ite (.e2 .sne (.var 7) (.var 8)) (
      .ret [.lt (.bool false)]) (
      .join 1 (
       .ite (.e2 .ilt (.var 9) (.e1 .llen (.e2 .app (.e1 .one (.var 2)) (.e2 .app (.e1 .one (.lt (.int 0))) (.e2 .app (.e1 .one (.e2 (.quo .i64) (.e1 (.conv .i64) (.var 4)) (.lt (.int 11)))) (.e2 .app (.e1 .one (.e1 .slen (.var 0))) (.e2 .app (.e1 .one (.e2 (.sub .i64) (.e1 .slen (.var 0)) (.e1 (.cell 0) (.e2 .row (.e2 .app (.e1 .one (.var 3)) (.e2 .app (.e1 .one (.e2 .rem (.e1 (.conv .i64) (.var 4)) (.lt (.int 11)))) (.e2 .app (.e1 .one (.lt (.int 8))) (.lt .nil)))) (.var 6))))) (.lt .nil)))))))) (
        .guard (.e2 .ile (.lt (.int 0)) (.var 9)) <|
        .guard (.e2 .ilt (.var 9) (.e1 .llen (.e2 .app (.e1 .one (.var 2)) (.e2 .app (.e1 .one (.lt (.int 0))) (.e2 .app (.e1 .one (.e2 (.quo .i64) (.e1 (.conv .i64) (.var 4)) (.lt (.int 11)))) (.e2 .app (.e1 .one (.e1 .slen (.var 0))) (.e2 .app (.e1 .one (.e2 (.sub .i64) (.e1 .slen (.var 0)) (.e1 (.cell 0) (.e2 .row (.e2 .app (.e1 .one (.var 3)) (.e2 .app (.e1 .one (.e2 .rem (.e1 (.conv .i64) (.var 4)) (.lt (.int 11)))) (.e2 .app (.e1 .one (.lt (.int 8))) (.lt .nil)))) (.var 6))))) (.lt .nil)))))))) <|
        .call 24 [.var 0, .e1 (.cell 0) (.e2 .row (.e2 .app (.e1 .one (.var 2)) (.e2 .app (.e1 .one (.lt (.int 0))) (.e2 .app (.e1 .one (.e2 (.quo .i64) (.e1 (.conv .i64) (.var 4)) (.lt (.int 11)))) (.e2 .app (.e1 .one (.e1 .slen (.var 0))) (.e2 .app (.e1 .one (.e2 (.sub .i64) (.e1 .slen (.var 0)) (.e1 (.cell 0) (.e2 .row (.e2 .app (.e1 .one (.var 3)) (.e2 .app (.e1 .one (.e2 .rem (.e1 (.conv .i64) (.var 4)) (.lt (.int 11)))) (.e2 .app (.e1 .one (.lt (.int 8))) (.lt .nil)))) (.var 6))))) (.lt .nil)))))) (.var 9)), .e1 (.cell 0) (.e2 .row (.e2 .app (.e1 .one (.var 3)) (.e2 .app (.e1 .one (.e2 .rem (.e1 (.conv .i64) (.var 4)) (.lt (.int 11)))) (.e2 .app (.e1 .one (.lt (.int 8))) (.lt .nil)))) (.var 6))] 2 <|
        .call 25 [.var 0, .e1 (.cell 0) (.e2 .row (.e2 .app (.e1 .one (.var 2)) (.e2 .app (.e1 .one (.lt (.int 0))) (.e2 .app (.e1 .one (.e2 (.quo .i64) (.e1 (.conv .i64) (.var 4)) (.lt (.int 11)))) (.e2 .app (.e1 .one (.e1 .slen (.var 0))) (.e2 .app (.e1 .one (.e2 (.sub .i64) (.e1 .slen (.var 0)) (.e1 (.cell 0) (.e2 .row (.e2 .app (.e1 .one (.var 3)) (.e2 .app (.e1 .one (.e2 .rem (.e1 (.conv .i64) (.var 4)) (.lt (.int 11)))) (.e2 .app (.e1 .one (.lt (.int 8))) (.lt .nil)))) (.var 6))))) (.lt .nil)))))) (.var 9)), .e1 (.cell 0) (.e2 .row (.e2 .app (.e1 .one (.var 3)) (.e2 .app (.e1 .one (.e2 .rem (.e1 (.conv .i64) (.var 4)) (.lt (.int 11)))) (.e2 .app (.e1 .one (.lt (.int 8))) (.lt .nil)))) (.var 6))] 2 <|
        .ite (.e2 .ine (.var 10) (.var 12)) (
         .ret [.lt (.bool false)]) (
         .ite (.e2 .ine (.var 11) (.var 13)) (
          .ret [.lt (.bool false)]) (
          .jump 1 [.e2 (.add .i64) (.var 9) (.lt (.int 1))]))) (
        .jump 0 [.e2 (.add .i64) (.var 6) (.lt (.int 1))])) <|
      .jump 1 [.lt (.int 0)])) (
     .ret [.lt (.bool true)])) <|
   .jump 0 [.lt (.int 0)]))
theorem h4 : symFn K [(4, [.live 35]), (9, [.live 60])] 4 = .ok t4 := by kernel_rfl

/-- pagemend/pagemendlaw01.CodecBack -/
def t5 : Tree :=
 .call 21 [] 1 <|
 .ite (.e1 .not (.var 4)) (
  .ite (.e2 .igt (.e1 .slen (.var 2)) (.lt (.int 300))) (
   .ret [.lt (.bool true)]) (
   .ret [.e2 .igt (.e1 .slen (.var 3)) (.lt (.int 300))])) (
  .ite (.e2 .igt (.e1 .slen (.var 2)) (.lt (.int 300))) (
   .ite (.e2 .igt (.e1 .slen (.var 2)) (.lt (.int 300))) (
    .ret [.lt (.bool true)]) (
    .ret [.e2 .igt (.e1 .slen (.var 3)) (.lt (.int 300))])) (
   .ite (.e2 .igt (.e1 .slen (.var 3)) (.lt (.int 300))) (
    .ite (.e2 .igt (.e1 .slen (.var 2)) (.lt (.int 300))) (
     .ret [.lt (.bool true)]) (
     .ret [.e2 .igt (.e1 .slen (.var 3)) (.lt (.int 300))])) (
    .ite (.e2 .ilt (.e2 (.add .i64) (.lt (.int 1)) (.e2 .rem (.e1 (.conv .i64) (.var 1)) (.lt (.int 8)))) (.lt (.int 8))) (
     .guard (.e2 .ile (.lt (.int 0)) (.e1 (.conv .u64) (.e2 (.mul .i64) (.lt (.int 8)) (.e2 (.add .i64) (.lt (.int 1)) (.e2 .rem (.e1 (.conv .i64) (.var 1)) (.lt (.int 8))))))) <|
     .call 22 [.var 2, .var 0, .e2 (.add .i64) (.lt (.int 1)) (.e2 .rem (.e1 (.conv .i64) (.var 1)) (.lt (.int 8)))] 1 <|
     .guard (.e2 .ile (.e2 (.add .i64) (.e1 .slen (.var 5)) (.e1 .slen (.var 3))) (.lt (.int 140737488355328))) <|
     .guard (.e2 .ile (.e1 .slen (.var 5)) (.lt (.int 140737488355328))) <|
     .guard (.e2 .ile (.e1 .slen (.var 3)) (.lt (.int 140737488355328))) <|
     .call 24 [.e2 .cat (.var 5) (.var 3), .e1 .slen (.var 2), .e2 (.add .i64) (.lt (.int 1)) (.e2 .rem (.e1 (.conv .i64) (.var 1)) (.lt (.int 8)))] 2 <|
     .ite (.e2 .ieq (.e1 .slen (.var 5)) (.e2 (.add .i64) (.e1 .slen (.var 2)) (.e2 (.add .i64) (.lt (.int 1)) (.e2 .rem (.e1 (.conv .i64) (.var 1)) (.lt (.int 8)))))) (
      .ite (.e2 .ieq (.var 7) (.lt (.int 0))) (
       .ret [.e2 .ieq (.var 6) (.e2 (.and .i64) (.var 0) (.e2 (.sub .i64) (.e2 (.shl .i64) (.lt (.int 1)) (.e1 (.conv .u64) (.e2 (.mul .i64) (.lt (.int 8)) (.e2 (.add .i64) (.lt (.int 1)) (.e2 .rem (.e1 (.conv .i64) (.var 1)) (.lt (.int 8))))))) (.lt (.int 1))))]) (
       .ret [.lt (.bool false)])) (
      .ret [.lt (.bool false)])) (
     .call 22 [.var 2, .var 0, .e2 (.add .i64) (.lt (.int 1)) (.e2 .rem (.e1 (.conv .i64) (.var 1)) (.lt (.int 8)))] 1 <|
     .guard (.e2 .ile (.e2 (.add .i64) (.e1 .slen (.var 5)) (.e1 .slen (.var 3))) (.lt (.int 140737488355328))) <|
     .guard (.e2 .ile (.e1 .slen (.var 5)) (.lt (.int 140737488355328))) <|
     .guard (.e2 .ile (.e1 .slen (.var 3)) (.lt (.int 140737488355328))) <|
     .call 24 [.e2 .cat (.var 5) (.var 3), .e1 .slen (.var 2), .e2 (.add .i64) (.lt (.int 1)) (.e2 .rem (.e1 (.conv .i64) (.var 1)) (.lt (.int 8)))] 2 <|
     .ite (.e2 .ieq (.e1 .slen (.var 5)) (.e2 (.add .i64) (.e1 .slen (.var 2)) (.e2 (.add .i64) (.lt (.int 1)) (.e2 .rem (.e1 (.conv .i64) (.var 1)) (.lt (.int 8)))))) (
      .ite (.e2 .ieq (.var 7) (.lt (.int 0))) (
       .ret [.e2 .ieq (.var 6) (.var 0)]) (
       .ret [.lt (.bool false)])) (
      .ret [.lt (.bool false)])))))
theorem h5 : symFn K [] 5 = .ok t5 := by kernel_rfl

/-- pagemend/pagemendlaw01.CodecFrames -/
def t7 : Tree :=
 .call 21 [] 1 <|
 .ite (.e1 .not (.var 4)) (
  .ret [.e2 .igt (.e1 .slen (.var 1)) (.lt (.int 600))]) (
  .ite (.e2 .igt (.e1 .slen (.var 1)) (.lt (.int 600))) (
   .ret [.e2 .igt (.e1 .slen (.var 1)) (.lt (.int 600))]) (
   .call 27 [.var 0, .lt (.int 60)] 2 <|
   .call 28 [.var 1] 1 <|
   .call 29 [.var 5, .var 6, .var 7] 3 <|
   .guard (.e2 .ile (.e2 (.add .i64) (.e1 .slen (.var 1)) (.e1 .slen (.var 7))) (.lt (.int 140737488355328))) <|
   .guard (.e2 .ile (.e1 .slen (.var 1)) (.lt (.int 140737488355328))) <|
   .guard (.e2 .ile (.e1 .slen (.var 7)) (.lt (.int 140737488355328))) <|
   .call 30 [.var 9, .var 10, .e2 (.add .i64) (.e1 .slen (.var 7)) (.lt (.int 1))] 3 <|
   .guard (.e2 .ile (.lt (.int 0)) (.var 11)) <|
   .guard (.e2 .ile (.var 11) (.e1 .slen (.var 7))) <|
   .guard (.e2 .ile (.lt (.int 0)) (.var 11)) <|
   .call 30 [.var 12, .var 13, .lt (.int 256)] 3 <|
   .call 30 [.var 15, .var 16, .lt (.int 64)] 3 <|
   .guard (.e2 .ile (.e2 (.add .i64) (.e1 .slen (.e1 .strOf (.e2 .app (.e1 .one (.e1 (.conv .u8) (.var 14))) (.e2 .app (.e1 .one (.e1 (.conv .u8) (.var 17))) (.e2 .app (.e1 .one (.lt (.int 0))) (.e2 .app (.e1 .one (.lt (.int 0))) (.lt .nil))))))) (.e1 .slen (.var 1))) (.lt (.int 140737488355328))) <|
   .guard (.e2 .ile (.e1 .slen (.e1 .strOf (.e2 .app (.e1 .one (.e1 (.conv .u8) (.var 14))) (.e2 .app (.e1 .one (.e1 (.conv .u8) (.var 17))) (.e2 .app (.e1 .one (.lt (.int 0))) (.e2 .app (.e1 .one (.lt (.int 0))) (.lt .nil))))))) (.lt (.int 140737488355328))) <|
   .guard (.e2 .ile (.e1 .slen (.var 1)) (.lt (.int 140737488355328))) <|
   .join 3 (
    .ite (.e2 .ilt (.var 20) (.e1 .llen (.e2 .app (.e1 .one (.var 1)) (.e2 .app (.e1 .one (.var 7)) (.e2 .app (.e1 .one (.var 8)) (.e2 .app (.e1 .one (.e2 .cat (.var 1) (.var 7))) (.e2 .app (.e1 .one (.e3 .ssub (.var 7) (.lt (.int 0)) (.var 11))) (.e2 .app (.e1 .one (.e2 .cat (.e1 .strOf (.e2 .app (.e1 .one (.e1 (.conv .u8) (.var 14))) (.e2 .app (.e1 .one (.e1 (.conv .u8) (.var 17))) (.e2 .app (.e1 .one (.lt (.int 0))) (.e2 .app (.e1 .one (.lt (.int 0))) (.lt .nil)))))) (.var 1))) (.lt .nil))))))))) (
     .guard (.e2 .ile (.lt (.int 0)) (.var 20)) <|
     .guard (.e2 .ilt (.var 20) (.e1 .llen (.e2 .app (.e1 .one (.var 1)) (.e2 .app (.e1 .one (.var 7)) (.e2 .app (.e1 .one (.var 8)) (.e2 .app (.e1 .one (.e2 .cat (.var 1) (.var 7))) (.e2 .app (.e1 .one (.e3 .ssub (.var 7) (.lt (.int 0)) (.var 11))) (.e2 .app (.e1 .one (.e2 .cat (.e1 .strOf (.e2 .app (.e1 .one (.e1 (.conv .u8) (.var 14))) (.e2 .app (.e1 .one (.e1 (.conv .u8) (.var 17))) (.e2 .app (.e1 .one (.lt (.int 0))) (.e2 .app (.e1 .one (.lt (.int 0))) (.lt .nil)))))) (.var 1))) (.lt .nil))))))))) <|
     .call 30 [.var 21, .var 22, .e2 (.add .i64) (.e1 .slen (.e1 (.cell 0) (.e2 .row (.e2 .app (.e1 .one (.var 1)) (.e2 .app (.e1 .one (.var 7)) (.e2 .app (.e1 .one (.var 8)) (.e2 .app (.e1 .one (.e2 .cat (.var 1) (.var 7))) (.e2 .app (.e1 .one (.e3 .ssub (.var 7) (.lt (.int 0)) (.var 11))) (.e2 .app (.e1 .one (.e2 .cat (.e1 .strOf (.e2 .app (.e1 .one (.e1 (.conv .u8) (.var 14))) (.e2 .app (.e1 .one (.e1 (.conv .u8) (.var 17))) (.e2 .app (.e1 .one (.lt (.int 0))) (.e2 .app (.e1 .one (.lt (.int 0))) (.lt .nil)))))) (.var 1))) (.lt .nil))))))) (.var 20)))) (.lt (.int 2))] 3 <|
     .join 1 (
      .ite (.e2 .ilt (.var 26) (.e1 .llen (.e2 .app (.e1 .one (.var 2)) (.e2 .app (.e1 .one (.lt (.int 0))) (.e2 .app (.e1 .one (.e1 .slen (.var 1))) (.e2 .app (.e1 .one (.var 23)) (.lt .nil))))))) (
       .guard (.e2 .ile (.lt (.int 0)) (.var 26)) <|
       .guard (.e2 .ilt (.var 26) (.e1 .llen (.e2 .app (.e1 .one (.var 2)) (.e2 .app (.e1 .one (.lt (.int 0))) (.e2 .app (.e1 .one (.e1 .slen (.var 1))) (.e2 .app (.e1 .one (.var 23)) (.lt .nil))))))) <|
       .call 31 [.e1 (.cell 0) (.e2 .row (.e2 .app (.e1 .one (.var 1)) (.e2 .app (.e1 .one (.var 7)) (.e2 .app (.e1 .one (.var 8)) (.e2 .app (.e1 .one (.e2 .cat (.var 1) (.var 7))) (.e2 .app (.e1 .one (.e3 .ssub (.var 7) (.lt (.int 0)) (.var 11))) (.e2 .app (.e1 .one (.e2 .cat (.e1 .strOf (.e2 .app (.e1 .one (.e1 (.conv .u8) (.var 14))) (.e2 .app (.e1 .one (.e1 (.conv .u8) (.var 17))) (.e2 .app (.e1 .one (.lt (.int 0))) (.e2 .app (.e1 .one (.lt (.int 0))) (.lt .nil)))))) (.var 1))) (.lt .nil))))))) (.var 20)), .e1 (.cell 0) (.e2 .row (.e2 .app (.e1 .one (.var 2)) (.e2 .app (.e1 .one (.lt (.int 0))) (.e2 .app (.e1 .one (.e1 .slen (.var 1))) (.e2 .app (.e1 .one (.var 23)) (.lt .nil))))) (.var 26))] 3 <|
       .call 32 [.e1 (.cell 0) (.e2 .row (.e2 .app (.e1 .one (.var 1)) (.e2 .app (.e1 .one (.var 7)) (.e2 .app (.e1 .one (.var 8)) (.e2 .app (.e1 .one (.e2 .cat (.var 1) (.var 7))) (.e2 .app (.e1 .one (.e3 .ssub (.var 7) (.lt (.int 0)) (.var 11))) (.e2 .app (.e1 .one (.e2 .cat (.e1 .strOf (.e2 .app (.e1 .one (.e1 (.conv .u8) (.var 14))) (.e2 .app (.e1 .one (.e1 (.conv .u8) (.var 17))) (.e2 .app (.e1 .one (.lt (.int 0))) (.e2 .app (.e1 .one (.lt (.int 0))) (.lt .nil)))))) (.var 1))) (.lt .nil))))))) (.var 20)), .e1 (.cell 0) (.e2 .row (.e2 .app (.e1 .one (.var 2)) (.e2 .app (.e1 .one (.lt (.int 0))) (.e2 .app (.e1 .one (.e1 .slen (.var 1))) (.e2 .app (.e1 .one (.var 23)) (.lt .nil))))) (.var 26))] 3 <|
       .ite (.e2 .sne (.var 27) (.var 30)) (
        .ret [.lt (.bool false)]) (
        .ite (.e2 .ine (.var 28) (.var 31)) (
         .ret [.lt (.bool false)]) (
         .ite (.e2 .ine (.var 29) (.var 32)) (
          .ret [.lt (.bool false)]) (
          .jump 1 [.e2 (.add .i64) (.var 26) (.lt (.int 1))])))) (
       .call 26 [.e1 (.cell 0) (.e2 .row (.e2 .app (.e1 .one (.var 1)) (.e2 .app (.e1 .one (.var 7)) (.e2 .app (.e1 .one (.var 8)) (.e2 .app (.e1 .one (.e2 .cat (.var 1) (.var 7))) (.e2 .app (.e1 .one (.e3 .ssub (.var 7) (.lt (.int 0)) (.var 11))) (.e2 .app (.e1 .one (.e2 .cat (.e1 .strOf (.e2 .app (.e1 .one (.e1 (.conv .u8) (.var 14))) (.e2 .app (.e1 .one (.e1 (.conv .u8) (.var 17))) (.e2 .app (.e1 .one (.lt (.int 0))) (.e2 .app (.e1 .one (.lt (.int 0))) (.lt .nil)))))) (.var 1))) (.lt .nil))))))) (.var 20))] 1 <|
       .call 33 [.e1 (.cell 0) (.e2 .row (.e2 .app (.e1 .one (.var 1)) (.e2 .app (.e1 .one (.var 7)) (.e2 .app (.e1 .one (.var 8)) (.e2 .app (.e1 .one (.e2 .cat (.var 1) (.var 7))) (.e2 .app (.e1 .one (.e3 .ssub (.var 7) (.lt (.int 0)) (.var 11))) (.e2 .app (.e1 .one (.e2 .cat (.e1 .strOf (.e2 .app (.e1 .one (.e1 (.conv .u8) (.var 14))) (.e2 .app (.e1 .one (.e1 (.conv .u8) (.var 17))) (.e2 .app (.e1 .one (.lt (.int 0))) (.e2 .app (.e1 .one (.lt (.int 0))) (.lt .nil)))))) (.var 1))) (.lt .nil))))))) (.var 20))] 1 <|
       .ite (.e2 .ine (.var 27) (.var 28)) (
        .ret [.lt (.bool false)]) (
        .call 34 [.e1 (.cell 0) (.e2 .row (.e2 .app (.e1 .one (.var 1)) (.e2 .app (.e1 .one (.var 7)) (.e2 .app (.e1 .one (.var 8)) (.e2 .app (.e1 .one (.e2 .cat (.var 1) (.var 7))) (.e2 .app (.e1 .one (.e3 .ssub (.var 7) (.lt (.int 0)) (.var 11))) (.e2 .app (.e1 .one (.e2 .cat (.e1 .strOf (.e2 .app (.e1 .one (.e1 (.conv .u8) (.var 14))) (.e2 .app (.e1 .one (.e1 (.conv .u8) (.var 17))) (.e2 .app (.e1 .one (.lt (.int 0))) (.e2 .app (.e1 .one (.lt (.int 0))) (.lt .nil)))))) (.var 1))) (.lt .nil))))))) (.var 20))] 1 <|
        .call 28 [.e1 (.cell 0) (.e2 .row (.e2 .app (.e1 .one (.var 1)) (.e2 .app (.e1 .one (.var 7)) (.e2 .app (.e1 .one (.var 8)) (.e2 .app (.e1 .one (.e2 .cat (.var 1) (.var 7))) (.e2 .app (.e1 .one (.e3 .ssub (.var 7) (.lt (.int 0)) (.var 11))) (.e2 .app (.e1 .one (.e2 .cat (.e1 .strOf (.e2 .app (.e1 .one (.e1 (.conv .u8) (.var 14))) (.e2 .app (.e1 .one (.e1 (.conv .u8) (.var 17))) (.e2 .app (.e1 .one (.lt (.int 0))) (.e2 .app (.e1 .one (.lt (.int 0))) (.lt .nil)))))) (.var 1))) (.lt .nil))))))) (.var 20))] 1 <|
        .ite (.e2 .sne (.var 29) (.var 30)) (
         .ret [.lt (.bool false)]) (
         .jump 0 [.e2 (.add .i64) (.var 20) (.lt (.int 1)), .var 24, .var 25])))) <|
     .jump 1 [.lt (.int 0)]) (
     .call 30 [.var 21, .var 22, .lt (.int 8)] 3 <|
     .ite (.e2 .igt (.var 23) (.lt (.int 0))) (
      .ret [.lt (.bool true)]) (
      .guard (.e2 .ile (.lt (.int 0)) (.e2 (.add .i64) (.lt (.int 8390)) (.e2 .rem (.e1 (.conv .i64) (.var 3)) (.lt (.int 5))))) <|
      .guard (.e2 .ile (.e2 (.add .i64) (.lt (.int 8390)) (.e2 .rem (.e1 (.conv .i64) (.var 3)) (.lt (.int 5)))) (.e2 (.add .i64) (.lt (.int 8390)) (.e2 .rem (.e1 (.conv .i64) (.var 3)) (.lt (.int 5))))) <|
      .guard (.e2 .ile (.e2 (.add .i64) (.lt (.int 8390)) (.e2 .rem (.e1 (.conv .i64) (.var 3)) (.lt (.int 5)))) (.lt (.int 140737488355328))) <|
      .call 34 [.e1 .strOf (.e2 .rep (.e2 (.add .i64) (.lt (.int 8390)) (.e2 .rem (.e1 (.conv .i64) (.var 3)) (.lt (.int 5)))) (.e1 .one (.lt (.int 0))))] 1 <|
      .call 28 [.e1 .strOf (.e2 .rep (.e2 (.add .i64) (.lt (.int 8390)) (.e2 .rem (.e1 (.conv .i64) (.var 3)) (.lt (.int 5)))) (.e1 .one (.lt (.int 0))))] 1 <|
      .ret [.e2 .seq (.var 26) (.var 27)]))) <|
   .jump 0 [.lt (.int 0), .var 18, .var 19]))
theorem h7 : symFn K [(6, [.live 63, .obj 0]), (9, [.live 77])] 7 = .ok t7 := by kernel_rfl

/-- pagemend/pagemendlaw01.CodecDamage -/
def t8 : Tree :=
 .call 21 [] 1 <|
 .ite (.e1 .not (.var 3)) (
  .ite (.e2 .igt (.e1 .slen (.var 0)) (.lt (.int 500))) (
   .ret [.lt (.bool true)]) (
   .ret [.e2 .ieq (.var 2) (.lt (.int 0))])) (
  .ite (.e2 .igt (.e1 .slen (.var 0)) (.lt (.int 500))) (
   .ite (.e2 .igt (.e1 .slen (.var 0)) (.lt (.int 500))) (
    .ret [.lt (.bool true)]) (
    .ret [.e2 .ieq (.var 2) (.lt (.int 0))])) (
   .ite (.e2 .ieq (.var 2) (.lt (.int 0))) (
    .ite (.e2 .igt (.e1 .slen (.var 0)) (.lt (.int 500))) (
     .ret [.lt (.bool true)]) (
     .ret [.e2 .ieq (.var 2) (.lt (.int 0))])) (
    .call 34 [.var 0] 1 <|
    .ite (.e2 .ine (.e1 .slen (.var 4)) (.e2 (.add .i64) (.e1 .slen (.var 0)) (.lt (.int 8)))) (
     .ret [.lt (.bool false)]) (
     .guard (.e2 .ine (.e2 (.sub .i64) (.e1 .slen (.var 4)) (.lt (.int 4))) (.lt (.int 0))) <|
     .guard (.e2 .ile (.lt (.int 0)) (.e2 (.add .i64) (.lt (.int 4)) (.e2 .rem (.e1 (.conv .i64) (.var 1)) (.e2 (.sub .i64) (.e1 .slen (.var 4)) (.lt (.int 4)))))) <|
     .guard (.e2 .ile (.e2 (.add .i64) (.lt (.int 4)) (.e2 .rem (.e1 (.conv .i64) (.var 1)) (.e2 (.sub .i64) (.e1 .slen (.var 4)) (.lt (.int 4))))) (.e1 .slen (.var 4))) <|
     .guard (.e2 .ile (.lt (.int 0)) (.e2 (.add .i64) (.lt (.int 4)) (.e2 .rem (.e1 (.conv .i64) (.var 1)) (.e2 (.sub .i64) (.e1 .slen (.var 4)) (.lt (.int 4)))))) <|
     .guard (.e2 .ile (.lt (.int 0)) (.e2 (.add .i64) (.lt (.int 4)) (.e2 .rem (.e1 (.conv .i64) (.var 1)) (.e2 (.sub .i64) (.e1 .slen (.var 4)) (.lt (.int 4)))))) <|
     .guard (.e2 .ilt (.e2 (.add .i64) (.lt (.int 4)) (.e2 .rem (.e1 (.conv .i64) (.var 1)) (.e2 (.sub .i64) (.e1 .slen (.var 4)) (.lt (.int 4))))) (.e1 .slen (.var 4))) <|
     .guard (.e2 .ile (.e2 (.add .i64) (.e1 .slen (.e3 .ssub (.var 4) (.lt (.int 0)) (.e2 (.add .i64) (.lt (.int 4)) (.e2 .rem (.e1 (.conv .i64) (.var 1)) (.e2 (.sub .i64) (.e1 .slen (.var 4)) (.lt (.int 4))))))) (.e1 .slen (.e1 .strOf (.e2 .app (.e1 .one (.e2 (.xor .u8) (.e2 .sidx (.var 4) (.e2 (.add .i64) (.lt (.int 4)) (.e2 .rem (.e1 (.conv .i64) (.var 1)) (.e2 (.sub .i64) (.e1 .slen (.var 4)) (.lt (.int 4)))))) (.var 2))) (.lt .nil))))) (.lt (.int 140737488355328))) <|
     .guard (.e2 .ile (.e1 .slen (.e3 .ssub (.var 4) (.lt (.int 0)) (.e2 (.add .i64) (.lt (.int 4)) (.e2 .rem (.e1 (.conv .i64) (.var 1)) (.e2 (.sub .i64) (.e1 .slen (.var 4)) (.lt (.int 4))))))) (.lt (.int 140737488355328))) <|
     .guard (.e2 .ile (.e1 .slen (.e1 .strOf (.e2 .app (.e1 .one (.e2 (.xor .u8) (.e2 .sidx (.var 4) (.e2 (.add .i64) (.lt (.int 4)) (.e2 .rem (.e1 (.conv .i64) (.var 1)) (.e2 (.sub .i64) (.e1 .slen (.var 4)) (.lt (.int 4)))))) (.var 2))) (.lt .nil)))) (.lt (.int 140737488355328))) <|
     .guard (.e2 .ile (.lt (.int 0)) (.e1 .slen (.var 4))) <|
     .guard (.e2 .ile (.e1 .slen (.var 4)) (.e1 .slen (.var 4))) <|
     .guard (.e2 .ile (.lt (.int 0)) (.e2 (.add .i64) (.e2 (.add .i64) (.lt (.int 4)) (.e2 .rem (.e1 (.conv .i64) (.var 1)) (.e2 (.sub .i64) (.e1 .slen (.var 4)) (.lt (.int 4))))) (.lt (.int 1)))) <|
     .guard (.e2 .ile (.e2 (.add .i64) (.e2 (.add .i64) (.lt (.int 4)) (.e2 .rem (.e1 (.conv .i64) (.var 1)) (.e2 (.sub .i64) (.e1 .slen (.var 4)) (.lt (.int 4))))) (.lt (.int 1))) (.e1 .slen (.var 4))) <|
     .guard (.e2 .ile (.e2 (.add .i64) (.e1 .slen (.e2 .cat (.e3 .ssub (.var 4) (.lt (.int 0)) (.e2 (.add .i64) (.lt (.int 4)) (.e2 .rem (.e1 (.conv .i64) (.var 1)) (.e2 (.sub .i64) (.e1 .slen (.var 4)) (.lt (.int 4)))))) (.e1 .strOf (.e2 .app (.e1 .one (.e2 (.xor .u8) (.e2 .sidx (.var 4) (.e2 (.add .i64) (.lt (.int 4)) (.e2 .rem (.e1 (.conv .i64) (.var 1)) (.e2 (.sub .i64) (.e1 .slen (.var 4)) (.lt (.int 4)))))) (.var 2))) (.lt .nil))))) (.e1 .slen (.e3 .ssub (.var 4) (.e2 (.add .i64) (.e2 (.add .i64) (.lt (.int 4)) (.e2 .rem (.e1 (.conv .i64) (.var 1)) (.e2 (.sub .i64) (.e1 .slen (.var 4)) (.lt (.int 4))))) (.lt (.int 1))) (.e1 .slen (.var 4))))) (.lt (.int 140737488355328))) <|
     .guard (.e2 .ile (.e1 .slen (.e2 .cat (.e3 .ssub (.var 4) (.lt (.int 0)) (.e2 (.add .i64) (.lt (.int 4)) (.e2 .rem (.e1 (.conv .i64) (.var 1)) (.e2 (.sub .i64) (.e1 .slen (.var 4)) (.lt (.int 4)))))) (.e1 .strOf (.e2 .app (.e1 .one (.e2 (.xor .u8) (.e2 .sidx (.var 4) (.e2 (.add .i64) (.lt (.int 4)) (.e2 .rem (.e1 (.conv .i64) (.var 1)) (.e2 (.sub .i64) (.e1 .slen (.var 4)) (.lt (.int 4)))))) (.var 2))) (.lt .nil))))) (.lt (.int 140737488355328))) <|
     .guard (.e2 .ile (.e1 .slen (.e3 .ssub (.var 4) (.e2 (.add .i64) (.e2 (.add .i64) (.lt (.int 4)) (.e2 .rem (.e1 (.conv .i64) (.var 1)) (.e2 (.sub .i64) (.e1 .slen (.var 4)) (.lt (.int 4))))) (.lt (.int 1))) (.e1 .slen (.var 4)))) (.lt (.int 140737488355328))) <|
     .call 31 [.e2 .cat (.e2 .cat (.e3 .ssub (.var 4) (.lt (.int 0)) (.e2 (.add .i64) (.lt (.int 4)) (.e2 .rem (.e1 (.conv .i64) (.var 1)) (.e2 (.sub .i64) (.e1 .slen (.var 4)) (.lt (.int 4)))))) (.e1 .strOf (.e2 .app (.e1 .one (.e2 (.xor .u8) (.e2 .sidx (.var 4) (.e2 (.add .i64) (.lt (.int 4)) (.e2 .rem (.e1 (.conv .i64) (.var 1)) (.e2 (.sub .i64) (.e1 .slen (.var 4)) (.lt (.int 4)))))) (.var 2))) (.lt .nil)))) (.e3 .ssub (.var 4) (.e2 (.add .i64) (.e2 (.add .i64) (.lt (.int 4)) (.e2 .rem (.e1 (.conv .i64) (.var 1)) (.e2 (.sub .i64) (.e1 .slen (.var 4)) (.lt (.int 4))))) (.lt (.int 1))) (.e1 .slen (.var 4))), .lt (.int 0)] 3 <|
     .guard (.e2 .ile (.lt (.int 0)) (.e2 (.add .i64) (.lt (.int 4)) (.e2 .rem (.e1 (.conv .i64) (.var 1)) (.e2 (.sub .i64) (.e1 .slen (.var 4)) (.lt (.int 4)))))) <|
     .guard (.e2 .ile (.e2 (.add .i64) (.lt (.int 4)) (.e2 .rem (.e1 (.conv .i64) (.var 1)) (.e2 (.sub .i64) (.e1 .slen (.var 4)) (.lt (.int 4))))) (.e1 .slen (.var 4))) <|
     .guard (.e2 .ile (.lt (.int 0)) (.e2 (.add .i64) (.lt (.int 4)) (.e2 .rem (.e1 (.conv .i64) (.var 1)) (.e2 (.sub .i64) (.e1 .slen (.var 4)) (.lt (.int 4)))))) <|
     .call 31 [.e3 .ssub (.var 4) (.lt (.int 0)) (.e2 (.add .i64) (.lt (.int 4)) (.e2 .rem (.e1 (.conv .i64) (.var 1)) (.e2 (.sub .i64) (.e1 .slen (.var 4)) (.lt (.int 4))))), .lt (.int 0)] 3 <|
     .call 31 [.var 4, .lt (.int 0)] 3 <|
     .ite (.e2 .ieq (.var 7) (.lt (.int 3))) (
      .ite (.e2 .ieq (.var 10) (.lt (.int 5))) (
       .ite (.e2 .ieq (.var 13) (.lt (.int 0))) (
        .ite (.e2 .seq (.var 11) (.var 0)) (
         .ret [.e2 .ieq (.var 12) (.e1 .slen (.var 4))]) (
         .ret [.lt (.bool false)])) (
        .ret [.lt (.bool false)])) (
       .ret [.lt (.bool false)])) (
      .ret [.lt (.bool false)])))))
theorem h8 : symFn K [] 8 = .ok t8 := by kernel_rfl

/-- pagemend/pagemendlaw34.SegmentsOrder -/
def t9 : Tree :=
 .call 16 [] 1 <|
 .ite (.e1 .not (.var 2)) (
  .ret [.lt (.bool false)]) (
  .call 27 [.var 0, .lt (.int 200)] 2 <|
  .call 17 [.e2 (.add .i64) (.lt (.int 1)) (.e2 .rem (.e1 (.conv .i64) (.var 1)) (.lt (.int 64)))] 4 <|
  .guard (.e2 .ile (.lt (.int 0)) (.e1 .llen (.var 6))) <|
  .guard (.e2 .ile (.e1 .llen (.var 6)) (.e1 .llen (.var 6))) <|
  .guard (.e2 .ile (.e1 .llen (.var 6)) (.lt (.int 140737488355328))) <|
  .call 30 [.var 3, .var 4, .lt (.int 10)] 3 <|
  .join 8 (
   .ite (.e2 .igt (.var 12) (.lt (.int 0))) (
    .call 30 [.var 13, .var 14, .e1 .llen (.var 6)] 3 <|
    .call 35 [.var 15, .var 16, .var 17, .var 20] 4 <|
    .ite (.e2 .ine (.var 26) (.lt (.int 0))) (
     .ret [.lt (.bool false)]) (
     .guard (.e2 .ile (.lt (.int 0)) (.var 20)) <|
     .guard (.e2 .ilt (.var 20) (.e1 .llen (.var 18))) <|
     .ite (.e1 .not (.e1 (.cell 0) (.e2 .row (.var 18) (.var 20)))) (
      .guard (.e2 .ile (.e1 .llen (.e2 .app (.var 19) (.e2 .app (.e1 .one (.var 20)) (.lt .nil)))) (.lt (.int 17592186044416))) <|
      .guard (.e2 .ile (.lt (.int 0)) (.var 20)) <|
      .guard (.e2 .ilt (.var 20) (.e1 .llen (.var 18))) <|
      .jump 0 [.e2 (.sub .i64) (.var 12) (.lt (.int 1)), .var 21, .var 22, .var 23, .var 24, .var 25, .e3 .lset (.var 18) (.var 20) (.e1 .one (.lt (.bool true))), .e2 .app (.var 19) (.e2 .app (.e1 .one (.var 20)) (.lt .nil))]) (
      .jump 0 [.e2 (.sub .i64) (.var 12) (.lt (.int 1)), .var 21, .var 22, .var 23, .var 24, .var 25, .var 18, .var 19]))) (
    .join 2 (
     .ite (.e2 .ilt (.var 20) (.e1 .llen (.var 6))) (
      .guard (.e2 .ile (.lt (.int 0)) (.var 20)) <|
      .guard (.e2 .ilt (.var 20) (.e1 .llen (.var 18))) <|
      .ite (.e1 .not (.e1 (.cell 0) (.e2 .row (.var 18) (.var 20)))) (
       .guard (.e2 .ile (.e1 .llen (.e2 .app (.var 21) (.e2 .app (.e1 .one (.var 20)) (.lt .nil)))) (.lt (.int 17592186044416))) <|
       .jump 1 [.e2 (.add .i64) (.var 20) (.lt (.int 1)), .e2 .app (.var 21) (.e2 .app (.e1 .one (.var 20)) (.lt .nil))]) (
       .jump 1 [.e2 (.add .i64) (.var 20) (.lt (.int 1)), .var 21])) (
      .join 4 (
       .ite (.e2 .ilt (.var 22) (.e1 .llen (.var 6))) (
        .call 36 [.var 23, .var 24, .var 25] 2 <|
        .ite (.e1 .not (.var 27)) (
         .ret [.lt (.bool false)]) (
         .guard (.e2 .ile (.lt (.int 0)) (.var 22)) <|
         .guard (.e2 .ilt (.var 22) (.e1 .llen (.var 21))) <|
         .ite (.e2 .ine (.var 26) (.e1 (.cell 0) (.e2 .row (.var 21) (.var 22)))) (
          .ret [.lt (.bool false)]) (
          .call 20 [.var 23, .var 24, .var 25, .e2 (.mul .i64) (.lt (.int 4)) (.var 26)] 1 <|
          .ite (.var 28) (
           .ret [.lt (.bool false)]) (
           .call 37 [.var 23, .var 24, .var 25, .var 26] 4 <|
           .ite (.e2 .ine (.var 32) (.lt (.int 0))) (
            .ret [.lt (.bool false)]) (
            .call 20 [.var 29, .var 30, .var 31, .e2 (.mul .i64) (.lt (.int 4)) (.var 26)] 1 <|
            .ite (.e1 .not (.var 33)) (
             .ret [.lt (.bool false)]) (
             .jump 2 [.e2 (.add .i64) (.var 22) (.lt (.int 1)), .var 29, .var 30, .var 31])))))) (
        .call 36 [.var 23, .var 24, .var 25] 2 <|
        .ite (.e2 .ieq (.var 8) (.lt (.int 0))) (
         .ite (.e1 .not (.var 27)) (
          .ret [.e1 .not (.var 23)]) (
          .ret [.lt (.bool false)])) (
         .ret [.lt (.bool false)]))) <|
      .jump 2 [.lt (.int 0), .var 15, .var 16, .var 17])) <|
    .jump 1 [.lt (.int 0), .var 19])) <|
  .jump 0 [.var 9, .var 10, .var 11, .var 5, .var 6, .var 7, .e2 .rep (.e1 .llen (.var 6)) (.e1 .one (.lt (.bool false))), .lt .nil])
theorem h9 : symFn K [(9, [.live 11, .live 9, .ownify 9 3, .obj 0, .obj 3, .obj 5, .obj 4]), (19, [.live 15, .live 9, .obj 5]), (24, [.live 16, .obj 3])] 9 = .ok t9 := by kernel_rfl

/-- pagemend/pagemendlaw05.EntryDecodes -/
def t10 : Tree :=
 .call 38 [] 1 <|
 .ite (.e1 .not (.var 2)) (
  .ret [.e2 .igt (.e1 .slen (.var 1)) (.lt (.int 600))]) (
  .ite (.e2 .igt (.e1 .slen (.var 1)) (.lt (.int 600))) (
   .ret [.e2 .igt (.e1 .slen (.var 1)) (.lt (.int 600))]) (
   .call 27 [.var 0, .lt (.int 120)] 2 <|
   .call 40 [.var 3, .var 4] 15 <|
   .call 39 [.var 5, .var 6, .var 7, .var 8, .var 9, .var 10, .var 11, .var 12, .var 13, .var 14, .var 15, .var 16, .var 17] 2 <|
   .call 29 [.var 18, .var 19, .var 20] 3 <|
   .call 29 [.var 23, .var 24, .var 20] 3 <|
   .call 29 [.var 26, .var 27, .var 25] 3 <|
   .guard (.e2 .ile (.e2 (.add .i64) (.e1 .slen (.var 20)) (.e1 .slen (.var 1))) (.lt (.int 140737488355328))) <|
   .guard (.e2 .ile (.e1 .slen (.var 20)) (.lt (.int 140737488355328))) <|
   .guard (.e2 .ile (.e1 .slen (.var 1)) (.lt (.int 140737488355328))) <|
   .call 30 [.var 29, .var 30, .e2 (.add .i64) (.e1 .slen (.var 20)) (.lt (.int 1))] 3 <|
   .guard (.e2 .ile (.lt (.int 0)) (.var 31)) <|
   .guard (.e2 .ile (.var 31) (.e1 .slen (.var 20))) <|
   .guard (.e2 .ile (.lt (.int 0)) (.var 31)) <|
   .join 1 (
    .ite (.e2 .ilt (.var 34) (.e1 .llen (.e2 .app (.e1 .one (.var 1)) (.e2 .app (.e1 .one (.var 20)) (.e2 .app (.e1 .one (.var 22)) (.e2 .app (.e1 .one (.var 28)) (.e2 .app (.e1 .one (.e2 .cat (.var 20) (.var 1))) (.e2 .app (.e1 .one (.e3 .ssub (.var 20) (.lt (.int 0)) (.var 31))) (.lt .nil))))))))) (
     .guard (.e2 .ile (.lt (.int 0)) (.var 34)) <|
     .guard (.e2 .ilt (.var 34) (.e1 .llen (.e2 .app (.e1 .one (.var 1)) (.e2 .app (.e1 .one (.var 20)) (.e2 .app (.e1 .one (.var 22)) (.e2 .app (.e1 .one (.var 28)) (.e2 .app (.e1 .one (.e2 .cat (.var 20) (.var 1))) (.e2 .app (.e1 .one (.e3 .ssub (.var 20) (.lt (.int 0)) (.var 31))) (.lt .nil))))))))) <|
     .call 41 [.e1 (.cell 0) (.e2 .row (.e2 .app (.e1 .one (.var 1)) (.e2 .app (.e1 .one (.var 20)) (.e2 .app (.e1 .one (.var 22)) (.e2 .app (.e1 .one (.var 28)) (.e2 .app (.e1 .one (.e2 .cat (.var 20) (.var 1))) (.e2 .app (.e1 .one (.e3 .ssub (.var 20) (.lt (.int 0)) (.var 31))) (.lt .nil))))))) (.var 34))] 14 <|
     .call 42 [.e1 (.cell 0) (.e2 .row (.e2 .app (.e1 .one (.var 1)) (.e2 .app (.e1 .one (.var 20)) (.e2 .app (.e1 .one (.var 22)) (.e2 .app (.e1 .one (.var 28)) (.e2 .app (.e1 .one (.e2 .cat (.var 20) (.var 1))) (.e2 .app (.e1 .one (.e3 .ssub (.var 20) (.lt (.int 0)) (.var 31))) (.lt .nil))))))) (.var 34))] 14 <|
     .ite (.e2 .dne (.e2 .addc (.e2 .addc (.e2 .addc (.e2 .addc (.e2 .addc (.e2 .addc (.e2 .addc (.e2 .addc (.e2 .addc (.e2 .addc (.e2 .addc (.e2 .addc (.e1 .one (.var 35)) (.var 36)) (.var 37)) (.var 38)) (.var 39)) (.var 40)) (.var 41)) (.var 42)) (.var 43)) (.var 44)) (.var 45)) (.var 46)) (.var 47)) (.e2 .addc (.e2 .addc (.e2 .addc (.e2 .addc (.e2 .addc (.e2 .addc (.e2 .addc (.e2 .addc (.e2 .addc (.e2 .addc (.e2 .addc (.e2 .addc (.e1 .one (.var 49)) (.var 50)) (.var 51)) (.var 52)) (.var 53)) (.var 54)) (.var 55)) (.var 56)) (.var 57)) (.var 58)) (.var 59)) (.var 60)) (.var 61))) (
      .ret [.lt (.bool false)]) (
      .ite (.e2 .ine (.var 48) (.var 62)) (
       .ret [.lt (.bool false)]) (
       .jump 0 [.e2 (.add .i64) (.var 34) (.lt (.int 1))]))) (
     .ret [.lt (.bool true)])) <|
   .jump 0 [.lt (.int 0)]))
theorem h10 : symFn K [(6, [.live 54])] 10 = .ok t10 := by kernel_rfl

/-- pagemend/pagemendlaw05.EntryReturns -/
def t11 : Tree :=
 .call 38 [] 1 <|
 .ite (.e1 .not (.var 1)) (
  .ret [.lt (.bool false)]) (
  .call 27 [.var 0, .lt (.int 120)] 2 <|
  .call 40 [.var 2, .var 3] 15 <|
  .call 43 [.var 4, .var 5, .var 6, .var 7, .var 8, .var 9, .var 10, .var 11, .var 12, .var 13, .var 14, .var 15, .var 16] 2 <|
  .ite (.e2 .ine (.var 20) (.lt (.int 0))) (
   .call 44 [.var 4, .var 5, .var 6, .var 7, .var 8, .var 9, .var 10, .var 11, .var 12, .var 13, .var 14, .var 15, .var 16] 1 <|
   .ret [.e1 .not (.var 21)]) (
   .call 41 [.var 19] 14 <|
   .call 29 [.var 17, .var 18, .var 19] 3 <|
   .call 41 [.var 35] 14 <|
   .call 43 [.var 38, .var 39, .var 40, .var 41, .var 42, .var 43, .var 44, .var 45, .var 46, .var 47, .var 48, .var 49, .var 50] 2 <|
   .call 30 [.var 36, .var 37, .e1 .slen (.var 19)] 3 <|
   .guard (.e2 .ile (.lt (.int 0)) (.var 54)) <|
   .guard (.e2 .ile (.var 54) (.e1 .slen (.var 19))) <|
   .guard (.e2 .ile (.lt (.int 0)) (.var 54)) <|
   .call 41 [.e3 .ssub (.var 19) (.lt (.int 0)) (.var 54)] 14 <|
   .ite (.e2 .ieq (.var 34) (.lt (.int 0))) (
    .ite (.e2 .deq (.e2 .addc (.e2 .addc (.e2 .addc (.e2 .addc (.e2 .addc (.e2 .addc (.e2 .addc (.e2 .addc (.e2 .addc (.e2 .addc (.e2 .addc (.e2 .addc (.e1 .one (.var 4)) (.var 5)) (.var 6)) (.var 7)) (.var 8)) (.var 9)) (.var 10)) (.var 11)) (.var 12)) (.var 13)) (.var 14)) (.var 15)) (.var 16)) (.e2 .addc (.e2 .addc (.e2 .addc (.e2 .addc (.e2 .addc (.e2 .addc (.e2 .addc (.e2 .addc (.e2 .addc (.e2 .addc (.e2 .addc (.e2 .addc (.e1 .one (.var 21)) (.var 22)) (.var 23)) (.var 24)) (.var 25)) (.var 26)) (.var 27)) (.var 28)) (.var 29)) (.var 30)) (.var 31)) (.var 32)) (.var 33))) (
     .ite (.e2 .ine (.var 51) (.lt (.int 0))) (
      .ret [.e2 .ieq (.var 70) (.lt (.int 5))]) (
      .ite (.e2 .ieq (.var 53) (.lt (.int 0))) (
       .ite (.e2 .seq (.var 52) (.var 35)) (
        .ret [.e2 .ieq (.var 70) (.lt (.int 5))]) (
        .ret [.lt (.bool false)])) (
       .ret [.lt (.bool false)]))) (
     .ret [.lt (.bool false)])) (
    .ret [.lt (.bool false)])))
theorem h11 : symFn K [] 11 = .ok t11 := by kernel_rfl

/-- pagemend/pagemendlaw05.EntrySizes -/
def t12 : Tree :=
 .call 38 [] 1 <|
 .ite (.e1 .not (.var 1)) (
  .ret [.lt (.bool false)]) (
  .call 27 [.var 0, .lt (.int 100)] 2 <|
  .call 40 [.var 2, .var 3] 15 <|
  .call 43 [.var 4, .var 5, .var 6, .var 7, .var 8, .var 9, .var 10, .var 11, .var 12, .var 13, .var 14, .var 15, .var 16] 2 <|
  .ite (.e2 .ieq (.var 20) (.lt (.int 0))) (
   .ret [.e2 .ieq (.e1 .slen (.var 19)) (.e2 (.add .i64) (.e2 (.add .i64) (.e2 (.add .i64) (.lt (.int 48)) (.e1 .slen (.var 13))) (.e1 .slen (.var 15))) (.e1 .slen (.var 16)))]) (
   .ret [.lt (.bool false)]))
theorem h12 : symFn K [] 12 = .ok t12 := by kernel_rfl

/-- pagemend/pagemendlaw05.EntryFields -/
def t13 : Tree :=
 .call 38 [] 1 <|
 .ite (.e1 .not (.var 2)) (
  .ret [.lt (.bool false)]) (
  .call 27 [.var 0, .lt (.int 100)] 2 <|
  .call 40 [.var 3, .var 4] 15 <|
  .ite (.e2 .ieq (.var 6) (.lt (.int 1))) (
   .ite (.e2 .ieq (.var 6) (.lt (.int 3))) (
    .ite (.e2 .ieq (.var 6) (.lt (.int 6))) (
     .join 14 (
      .call 44 [.var 5, .var 6, .var 7, .var 8, .var 9, .var 10, .var 11, .var 12, .var 13, .var 14, .var 15, .var 16, .var 17] 1 <|
      .ite (.var 34) (
       .call 44 [.var 21, .var 22, .var 23, .var 24, .var 25, .var 26, .var 27, .var 28, .var 29, .var 30, .var 31, .var 32, .var 33] 1 <|
       .ite (.e2 .beq (.var 35) (.var 20)) (
        .call 45 [.var 21, .var 22, .var 23, .var 24, .var 25, .var 26, .var 27, .var 28, .var 29, .var 30, .var 31, .var 32, .var 33] 1 <|
        .ret [.e2 .beq (.var 36) (.var 20)]) (
        .ret [.lt (.bool false)])) (
       .ret [.lt (.bool false)])) <|
     .ite (.e2 .ieq (.e2 .rem (.var 1) (.lt (.int 5))) (.lt (.int 0))) (
      .jump 0 [.lt (.bool true), .var 5, .var 6, .lt (.int 3), .e2 .max (.var 8) (.lt (.int 0)), .var 9, .var 10, .var 11, .var 12, .var 13, .var 14, .var 15, .var 16, .var 17]) (
      .ite (.e2 .ieq (.e2 .rem (.var 1) (.lt (.int 5))) (.lt (.int 1))) (
       .jump 0 [.lt (.bool true), .var 5, .var 6, .var 7, .var 8, .lt (.int 2), .var 10, .var 11, .var 12, .var 13, .var 14, .var 15, .var 16, .var 17]) (
       .ite (.e2 .ieq (.e2 .rem (.var 1) (.lt (.int 5))) (.lt (.int 2))) (
        .jump 0 [.lt (.bool true), .var 5, .var 6, .var 7, .var 8, .var 9, .var 10, .var 11, .var 12, .var 13, .var 14, .var 15, .var 16, .lt (.str [120])]) (
        .ite (.e2 .ieq (.e2 .rem (.var 1) (.lt (.int 5))) (.lt (.int 3))) (
         .jump 0 [.lt (.bool true), .var 5, .var 6, .var 7, .var 8, .var 9, .var 10, .var 11, .lt (.int 1), .var 13, .var 14, .var 15, .var 16, .var 17]) (
         .ite (.e2 .ieq (.e2 .rem (.var 1) (.lt (.int 5))) (.lt (.int 4))) (
          .jump 0 [.lt (.bool false), .var 5, .var 6, .var 7, .var 5, .var 9, .var 10, .var 11, .var 12, .var 13, .var 14, .var 15, .var 16, .var 17]) (
          .jump 0 [.lt (.bool true), .var 5, .var 6, .var 7, .var 8, .var 9, .var 10, .var 11, .var 12, .var 13, .var 14, .var 15, .var 16, .var 17])))))) (
     .join 14 (
      .call 44 [.var 5, .var 6, .var 7, .var 8, .var 9, .var 10, .var 11, .var 12, .var 13, .var 14, .var 15, .var 16, .var 17] 1 <|
      .ite (.var 34) (
       .call 44 [.var 21, .var 22, .var 23, .var 24, .var 25, .var 26, .var 27, .var 28, .var 29, .var 30, .var 31, .var 32, .var 33] 1 <|
       .ite (.e2 .beq (.var 35) (.var 20)) (
        .call 45 [.var 21, .var 22, .var 23, .var 24, .var 25, .var 26, .var 27, .var 28, .var 29, .var 30, .var 31, .var 32, .var 33] 1 <|
        .ret [.e2 .beq (.var 36) (.var 20)]) (
        .ret [.lt (.bool false)])) (
       .ret [.lt (.bool false)])) <|
     .ite (.e2 .ieq (.e2 .rem (.var 1) (.lt (.int 5))) (.lt (.int 0))) (
      .jump 0 [.lt (.bool true), .var 5, .var 6, .lt (.int 3), .e2 .max (.var 8) (.lt (.int 0)), .var 9, .var 10, .var 11, .var 12, .var 13, .var 14, .var 15, .var 16, .var 17]) (
      .ite (.e2 .ieq (.e2 .rem (.var 1) (.lt (.int 5))) (.lt (.int 1))) (
       .jump 0 [.lt (.bool true), .var 5, .var 6, .var 7, .var 8, .lt (.int 2), .var 10, .var 11, .var 12, .var 13, .var 14, .var 15, .var 16, .var 17]) (
       .ite (.e2 .ieq (.e2 .rem (.var 1) (.lt (.int 5))) (.lt (.int 2))) (
        .jump 0 [.e2 .ieq (.var 6) (.lt (.int 8)), .var 5, .var 6, .var 7, .var 8, .var 9, .var 10, .var 11, .var 12, .var 13, .var 14, .var 15, .var 16, .lt (.str [120])]) (
        .ite (.e2 .ieq (.e2 .rem (.var 1) (.lt (.int 5))) (.lt (.int 3))) (
         .jump 0 [.lt (.bool true), .var 5, .var 6, .var 7, .var 8, .var 9, .var 10, .var 11, .lt (.int 1), .var 13, .var 14, .var 15, .var 16, .var 17]) (
         .ite (.e2 .ieq (.e2 .rem (.var 1) (.lt (.int 5))) (.lt (.int 4))) (
          .jump 0 [.lt (.bool false), .var 5, .var 6, .var 7, .var 5, .var 9, .var 10, .var 11, .var 12, .var 13, .var 14, .var 15, .var 16, .var 17]) (
          .jump 0 [.lt (.bool true), .var 5, .var 6, .var 7, .var 8, .var 9, .var 10, .var 11, .var 12, .var 13, .var 14, .var 15, .var 16, .var 17]))))))) (
    .ite (.e2 .ieq (.var 6) (.lt (.int 4))) (
     .ite (.e2 .ieq (.var 6) (.lt (.int 6))) (
      .join 14 (
       .call 44 [.var 5, .var 6, .var 7, .var 8, .var 9, .var 10, .var 11, .var 12, .var 13, .var 14, .var 15, .var 16, .var 17] 1 <|
       .ite (.var 34) (
        .call 44 [.var 21, .var 22, .var 23, .var 24, .var 25, .var 26, .var 27, .var 28, .var 29, .var 30, .var 31, .var 32, .var 33] 1 <|
        .ite (.e2 .beq (.var 35) (.var 20)) (
         .call 45 [.var 21, .var 22, .var 23, .var 24, .var 25, .var 26, .var 27, .var 28, .var 29, .var 30, .var 31, .var 32, .var 33] 1 <|
         .ret [.e2 .beq (.var 36) (.var 20)]) (
         .ret [.lt (.bool false)])) (
        .ret [.lt (.bool false)])) <|
      .ite (.e2 .ieq (.e2 .rem (.var 1) (.lt (.int 5))) (.lt (.int 0))) (
       .jump 0 [.lt (.bool true), .var 5, .var 6, .lt (.int 3), .e2 .max (.var 8) (.lt (.int 0)), .var 9, .var 10, .var 11, .var 12, .var 13, .var 14, .var 15, .var 16, .var 17]) (
       .ite (.e2 .ieq (.e2 .rem (.var 1) (.lt (.int 5))) (.lt (.int 1))) (
        .jump 0 [.lt (.bool true), .var 5, .var 6, .var 7, .var 8, .lt (.int 2), .var 10, .var 11, .var 12, .var 13, .var 14, .var 15, .var 16, .var 17]) (
        .ite (.e2 .ieq (.e2 .rem (.var 1) (.lt (.int 5))) (.lt (.int 2))) (
         .jump 0 [.lt (.bool true), .var 5, .var 6, .var 7, .var 8, .var 9, .var 10, .var 11, .var 12, .var 13, .var 14, .var 15, .var 16, .lt (.str [120])]) (
         .ite (.e2 .ieq (.e2 .rem (.var 1) (.lt (.int 5))) (.lt (.int 3))) (
          .jump 0 [.lt (.bool true), .var 5, .var 6, .var 7, .var 8, .var 9, .var 10, .var 11, .lt (.int 1), .var 13, .var 14, .var 15, .var 16, .var 17]) (
          .ite (.e2 .ieq (.e2 .rem (.var 1) (.lt (.int 5))) (.lt (.int 4))) (
           .jump 0 [.lt (.bool false), .var 5, .var 6, .var 7, .var 5, .var 9, .var 10, .var 11, .var 12, .var 13, .var 14, .var 15, .var 16, .var 17]) (
           .jump 0 [.lt (.bool true), .var 5, .var 6, .var 7, .var 8, .var 9, .var 10, .var 11, .var 12, .var 13, .var 14, .var 15, .var 16, .var 17])))))) (
      .join 14 (
       .call 44 [.var 5, .var 6, .var 7, .var 8, .var 9, .var 10, .var 11, .var 12, .var 13, .var 14, .var 15, .var 16, .var 17] 1 <|
       .ite (.var 34) (
        .call 44 [.var 21, .var 22, .var 23, .var 24, .var 25, .var 26, .var 27, .var 28, .var 29, .var 30, .var 31, .var 32, .var 33] 1 <|
        .ite (.e2 .beq (.var 35) (.var 20)) (
         .call 45 [.var 21, .var 22, .var 23, .var 24, .var 25, .var 26, .var 27, .var 28, .var 29, .var 30, .var 31, .var 32, .var 33] 1 <|
         .ret [.e2 .beq (.var 36) (.var 20)]) (
         .ret [.lt (.bool false)])) (
        .ret [.lt (.bool false)])) <|
      .ite (.e2 .ieq (.e2 .rem (.var 1) (.lt (.int 5))) (.lt (.int 0))) (
       .jump 0 [.lt (.bool true), .var 5, .var 6, .lt (.int 3), .e2 .max (.var 8) (.lt (.int 0)), .var 9, .var 10, .var 11, .var 12, .var 13, .var 14, .var 15, .var 16, .var 17]) (
       .ite (.e2 .ieq (.e2 .rem (.var 1) (.lt (.int 5))) (.lt (.int 1))) (
        .jump 0 [.lt (.bool true), .var 5, .var 6, .var 7, .var 8, .lt (.int 2), .var 10, .var 11, .var 12, .var 13, .var 14, .var 15, .var 16, .var 17]) (
        .ite (.e2 .ieq (.e2 .rem (.var 1) (.lt (.int 5))) (.lt (.int 2))) (
         .jump 0 [.e2 .ieq (.var 6) (.lt (.int 8)), .var 5, .var 6, .var 7, .var 8, .var 9, .var 10, .var 11, .var 12, .var 13, .var 14, .var 15, .var 16, .lt (.str [120])]) (
         .ite (.e2 .ieq (.e2 .rem (.var 1) (.lt (.int 5))) (.lt (.int 3))) (
          .jump 0 [.lt (.bool true), .var 5, .var 6, .var 7, .var 8, .var 9, .var 10, .var 11, .lt (.int 1), .var 13, .var 14, .var 15, .var 16, .var 17]) (
          .ite (.e2 .ieq (.e2 .rem (.var 1) (.lt (.int 5))) (.lt (.int 4))) (
           .jump 0 [.lt (.bool false), .var 5, .var 6, .var 7, .var 5, .var 9, .var 10, .var 11, .var 12, .var 13, .var 14, .var 15, .var 16, .var 17]) (
           .jump 0 [.lt (.bool true), .var 5, .var 6, .var 7, .var 8, .var 9, .var 10, .var 11, .var 12, .var 13, .var 14, .var 15, .var 16, .var 17]))))))) (
     .ite (.e2 .ieq (.var 6) (.lt (.int 6))) (
      .join 14 (
       .call 44 [.var 5, .var 6, .var 7, .var 8, .var 9, .var 10, .var 11, .var 12, .var 13, .var 14, .var 15, .var 16, .var 17] 1 <|
       .ite (.var 34) (
        .call 44 [.var 21, .var 22, .var 23, .var 24, .var 25, .var 26, .var 27, .var 28, .var 29, .var 30, .var 31, .var 32, .var 33] 1 <|
        .ite (.e2 .beq (.var 35) (.var 20)) (
         .call 45 [.var 21, .var 22, .var 23, .var 24, .var 25, .var 26, .var 27, .var 28, .var 29, .var 30, .var 31, .var 32, .var 33] 1 <|
         .ret [.e2 .beq (.var 36) (.var 20)]) (
         .ret [.lt (.bool false)])) (
        .ret [.lt (.bool false)])) <|
      .ite (.e2 .ieq (.e2 .rem (.var 1) (.lt (.int 5))) (.lt (.int 0))) (
       .jump 0 [.lt (.bool true), .var 5, .var 6, .lt (.int 3), .e2 .max (.var 8) (.lt (.int 0)), .var 9, .var 10, .var 11, .var 12, .var 13, .var 14, .var 15, .var 16, .var 17]) (
       .ite (.e2 .ieq (.e2 .rem (.var 1) (.lt (.int 5))) (.lt (.int 1))) (
        .jump 0 [.lt (.bool true), .var 5, .var 6, .var 7, .var 8, .lt (.int 2), .var 10, .var 11, .var 12, .var 13, .var 14, .var 15, .var 16, .var 17]) (
        .ite (.e2 .ieq (.e2 .rem (.var 1) (.lt (.int 5))) (.lt (.int 2))) (
         .jump 0 [.lt (.bool true), .var 5, .var 6, .var 7, .var 8, .var 9, .var 10, .var 11, .var 12, .var 13, .var 14, .var 15, .var 16, .lt (.str [120])]) (
         .ite (.e2 .ieq (.e2 .rem (.var 1) (.lt (.int 5))) (.lt (.int 3))) (
          .jump 0 [.lt (.bool true), .var 5, .var 6, .var 7, .var 8, .var 9, .var 10, .var 11, .lt (.int 1), .var 13, .var 14, .var 15, .var 16, .var 17]) (
          .ite (.e2 .ieq (.e2 .rem (.var 1) (.lt (.int 5))) (.lt (.int 4))) (
           .jump 0 [.lt (.bool false), .var 5, .var 6, .var 7, .var 5, .var 9, .var 10, .var 11, .var 12, .var 13, .var 14, .var 15, .var 16, .var 17]) (
           .jump 0 [.lt (.bool true), .var 5, .var 6, .var 7, .var 8, .var 9, .var 10, .var 11, .var 12, .var 13, .var 14, .var 15, .var 16, .var 17])))))) (
      .join 14 (
       .call 44 [.var 5, .var 6, .var 7, .var 8, .var 9, .var 10, .var 11, .var 12, .var 13, .var 14, .var 15, .var 16, .var 17] 1 <|
       .ite (.var 34) (
        .call 44 [.var 21, .var 22, .var 23, .var 24, .var 25, .var 26, .var 27, .var 28, .var 29, .var 30, .var 31, .var 32, .var 33] 1 <|
        .ite (.e2 .beq (.var 35) (.var 20)) (
         .call 45 [.var 21, .var 22, .var 23, .var 24, .var 25, .var 26, .var 27, .var 28, .var 29, .var 30, .var 31, .var 32, .var 33] 1 <|
         .ret [.e2 .beq (.var 36) (.var 20)]) (
         .ret [.lt (.bool false)])) (
        .ret [.lt (.bool false)])) <|
      .ite (.e2 .ieq (.e2 .rem (.var 1) (.lt (.int 5))) (.lt (.int 0))) (
       .jump 0 [.lt (.bool true), .var 5, .var 6, .lt (.int 3), .e2 .max (.var 8) (.lt (.int 0)), .var 9, .var 10, .var 11, .var 12, .var 13, .var 14, .var 15, .var 16, .var 17]) (
       .ite (.e2 .ieq (.e2 .rem (.var 1) (.lt (.int 5))) (.lt (.int 1))) (
        .jump 0 [.lt (.bool true), .var 5, .var 6, .var 7, .var 8, .lt (.int 2), .var 10, .var 11, .var 12, .var 13, .var 14, .var 15, .var 16, .var 17]) (
        .ite (.e2 .ieq (.e2 .rem (.var 1) (.lt (.int 5))) (.lt (.int 2))) (
         .jump 0 [.e2 .ieq (.var 6) (.lt (.int 8)), .var 5, .var 6, .var 7, .var 8, .var 9, .var 10, .var 11, .var 12, .var 13, .var 14, .var 15, .var 16, .lt (.str [120])]) (
         .ite (.e2 .ieq (.e2 .rem (.var 1) (.lt (.int 5))) (.lt (.int 3))) (
          .jump 0 [.lt (.bool true), .var 5, .var 6, .var 7, .var 8, .var 9, .var 10, .var 11, .lt (.int 1), .var 13, .var 14, .var 15, .var 16, .var 17]) (
          .ite (.e2 .ieq (.e2 .rem (.var 1) (.lt (.int 5))) (.lt (.int 4))) (
           .jump 0 [.lt (.bool false), .var 5, .var 6, .var 7, .var 5, .var 9, .var 10, .var 11, .var 12, .var 13, .var 14, .var 15, .var 16, .var 17]) (
           .jump 0 [.lt (.bool true), .var 5, .var 6, .var 7, .var 8, .var 9, .var 10, .var 11, .var 12, .var 13, .var 14, .var 15, .var 16, .var 17]))))))))) (
   .ite (.e2 .ieq (.var 6) (.lt (.int 3))) (
    .ite (.e2 .ieq (.var 6) (.lt (.int 6))) (
     .join 14 (
      .call 44 [.var 5, .var 6, .var 7, .var 8, .var 9, .var 10, .var 11, .var 12, .var 13, .var 14, .var 15, .var 16, .var 17] 1 <|
      .ite (.var 34) (
       .call 44 [.var 21, .var 22, .var 23, .var 24, .var 25, .var 26, .var 27, .var 28, .var 29, .var 30, .var 31, .var 32, .var 33] 1 <|
       .ite (.e2 .beq (.var 35) (.var 20)) (
        .call 45 [.var 21, .var 22, .var 23, .var 24, .var 25, .var 26, .var 27, .var 28, .var 29, .var 30, .var 31, .var 32, .var 33] 1 <|
        .ret [.e2 .beq (.var 36) (.var 20)]) (
        .ret [.lt (.bool false)])) (
       .ret [.lt (.bool false)])) <|
     .ite (.e2 .ieq (.e2 .rem (.var 1) (.lt (.int 5))) (.lt (.int 0))) (
      .ite (.e2 .ieq (.var 6) (.lt (.int 2))) (
       .jump 0 [.lt (.bool true), .var 5, .var 6, .lt (.int 3), .e2 .max (.var 8) (.lt (.int 0)), .var 9, .var 10, .var 11, .var 12, .var 13, .var 14, .var 15, .var 16, .var 17]) (
       .jump 0 [.lt (.bool true), .var 5, .var 6, .lt (.int 3), .e2 .max (.var 8) (.lt (.int 0)), .var 9, .var 10, .var 11, .var 12, .var 13, .var 14, .var 15, .var 16, .var 17])) (
      .ite (.e2 .ieq (.e2 .rem (.var 1) (.lt (.int 5))) (.lt (.int 1))) (
       .jump 0 [.e2 .ieq (.var 6) (.lt (.int 2)), .var 5, .var 6, .var 7, .var 8, .lt (.int 2), .var 10, .var 11, .var 12, .var 13, .var 14, .var 15, .var 16, .var 17]) (
       .ite (.e2 .ieq (.e2 .rem (.var 1) (.lt (.int 5))) (.lt (.int 2))) (
        .jump 0 [.lt (.bool true), .var 5, .var 6, .var 7, .var 8, .var 9, .var 10, .var 11, .var 12, .var 13, .var 14, .var 15, .var 16, .lt (.str [120])]) (
        .ite (.e2 .ieq (.e2 .rem (.var 1) (.lt (.int 5))) (.lt (.int 3))) (
         .jump 0 [.e2 .ieq (.var 6) (.lt (.int 2)), .var 5, .var 6, .var 7, .var 8, .var 9, .var 10, .var 11, .lt (.int 1), .var 13, .var 14, .var 15, .var 16, .var 17]) (
         .ite (.e2 .ieq (.e2 .rem (.var 1) (.lt (.int 5))) (.lt (.int 4))) (
          .jump 0 [.lt (.bool false), .var 5, .var 6, .var 7, .var 5, .var 9, .var 10, .var 11, .var 12, .var 13, .var 14, .var 15, .var 16, .var 17]) (
          .jump 0 [.lt (.bool true), .var 5, .var 6, .var 7, .var 8, .var 9, .var 10, .var 11, .var 12, .var 13, .var 14, .var 15, .var 16, .var 17])))))) (
     .join 14 (
      .call 44 [.var 5, .var 6, .var 7, .var 8, .var 9, .var 10, .var 11, .var 12, .var 13, .var 14, .var 15, .var 16, .var 17] 1 <|
      .ite (.var 34) (
       .call 44 [.var 21, .var 22, .var 23, .var 24, .var 25, .var 26, .var 27, .var 28, .var 29, .var 30, .var 31, .var 32, .var 33] 1 <|
       .ite (.e2 .beq (.var 35) (.var 20)) (
        .call 45 [.var 21, .var 22, .var 23, .var 24, .var 25, .var 26, .var 27, .var 28, .var 29, .var 30, .var 31, .var 32, .var 33] 1 <|
        .ret [.e2 .beq (.var 36) (.var 20)]) (
        .ret [.lt (.bool false)])) (
       .ret [.lt (.bool false)])) <|
     .ite (.e2 .ieq (.e2 .rem (.var 1) (.lt (.int 5))) (.lt (.int 0))) (
      .ite (.e2 .ieq (.var 6) (.lt (.int 2))) (
       .jump 0 [.lt (.bool true), .var 5, .var 6, .lt (.int 3), .e2 .max (.var 8) (.lt (.int 0)), .var 9, .var 10, .var 11, .var 12, .var 13, .var 14, .var 15, .var 16, .var 17]) (
       .jump 0 [.lt (.bool true), .var 5, .var 6, .lt (.int 3), .e2 .max (.var 8) (.lt (.int 0)), .var 9, .var 10, .var 11, .var 12, .var 13, .var 14, .var 15, .var 16, .var 17])) (
      .ite (.e2 .ieq (.e2 .rem (.var 1) (.lt (.int 5))) (.lt (.int 1))) (
       .jump 0 [.e2 .ieq (.var 6) (.lt (.int 2)), .var 5, .var 6, .var 7, .var 8, .lt (.int 2), .var 10, .var 11, .var 12, .var 13, .var 14, .var 15, .var 16, .var 17]) (
       .ite (.e2 .ieq (.e2 .rem (.var 1) (.lt (.int 5))) (.lt (.int 2))) (
        .jump 0 [.e2 .ieq (.var 6) (.lt (.int 8)), .var 5, .var 6, .var 7, .var 8, .var 9, .var 10, .var 11, .var 12, .var 13, .var 14, .var 15, .var 16, .lt (.str [120])]) (
        .ite (.e2 .ieq (.e2 .rem (.var 1) (.lt (.int 5))) (.lt (.int 3))) (
         .jump 0 [.e2 .ieq (.var 6) (.lt (.int 2)), .var 5, .var 6, .var 7, .var 8, .var 9, .var 10, .var 11, .lt (.int 1), .var 13, .var 14, .var 15, .var 16, .var 17]) (
         .ite (.e2 .ieq (.e2 .rem (.var 1) (.lt (.int 5))) (.lt (.int 4))) (
          .jump 0 [.lt (.bool false), .var 5, .var 6, .var 7, .var 5, .var 9, .var 10, .var 11, .var 12, .var 13, .var 14, .var 15, .var 16, .var 17]) (
          .jump 0 [.lt (.bool true), .var 5, .var 6, .var 7, .var 8, .var 9, .var 10, .var 11, .var 12, .var 13, .var 14, .var 15, .var 16, .var 17]))))))) (
    .ite (.e2 .ieq (.var 6) (.lt (.int 4))) (
     .ite (.e2 .ieq (.var 6) (.lt (.int 6))) (
      .join 14 (
       .call 44 [.var 5, .var 6, .var 7, .var 8, .var 9, .var 10, .var 11, .var 12, .var 13, .var 14, .var 15, .var 16, .var 17] 1 <|
       .ite (.var 34) (
        .call 44 [.var 21, .var 22, .var 23, .var 24, .var 25, .var 26, .var 27, .var 28, .var 29, .var 30, .var 31, .var 32, .var 33] 1 <|
        .ite (.e2 .beq (.var 35) (.var 20)) (
         .call 45 [.var 21, .var 22, .var 23, .var 24, .var 25, .var 26, .var 27, .var 28, .var 29, .var 30, .var 31, .var 32, .var 33] 1 <|
         .ret [.e2 .beq (.var 36) (.var 20)]) (
         .ret [.lt (.bool false)])) (
        .ret [.lt (.bool false)])) <|
      .ite (.e2 .ieq (.e2 .rem (.var 1) (.lt (.int 5))) (.lt (.int 0))) (
       .ite (.e2 .ieq (.var 6) (.lt (.int 2))) (
        .jump 0 [.lt (.bool true), .var 5, .var 6, .lt (.int 3), .e2 .max (.var 8) (.lt (.int 0)), .var 9, .var 10, .var 11, .var 12, .var 13, .var 14, .var 15, .var 16, .var 17]) (
        .jump 0 [.lt (.bool true), .var 5, .var 6, .lt (.int 3), .e2 .max (.var 8) (.lt (.int 0)), .var 9, .var 10, .var 11, .var 12, .var 13, .var 14, .var 15, .var 16, .var 17])) (
       .ite (.e2 .ieq (.e2 .rem (.var 1) (.lt (.int 5))) (.lt (.int 1))) (
        .jump 0 [.e2 .ieq (.var 6) (.lt (.int 2)), .var 5, .var 6, .var 7, .var 8, .lt (.int 2), .var 10, .var 11, .var 12, .var 13, .var 14, .var 15, .var 16, .var 17]) (
        .ite (.e2 .ieq (.e2 .rem (.var 1) (.lt (.int 5))) (.lt (.int 2))) (
         .jump 0 [.lt (.bool true), .var 5, .var 6, .var 7, .var 8, .var 9, .var 10, .var 11, .var 12, .var 13, .var 14, .var 15, .var 16, .lt (.str [120])]) (
         .ite (.e2 .ieq (.e2 .rem (.var 1) (.lt (.int 5))) (.lt (.int 3))) (
          .jump 0 [.e2 .ieq (.var 6) (.lt (.int 2)), .var 5, .var 6, .var 7, .var 8, .var 9, .var 10, .var 11, .lt (.int 1), .var 13, .var 14, .var 15, .var 16, .var 17]) (
          .ite (.e2 .ieq (.e2 .rem (.var 1) (.lt (.int 5))) (.lt (.int 4))) (
           .jump 0 [.lt (.bool false), .var 5, .var 6, .var 7, .var 5, .var 9, .var 10, .var 11, .var 12, .var 13, .var 14, .var 15, .var 16, .var 17]) (
           .jump 0 [.lt (.bool true), .var 5, .var 6, .var 7, .var 8, .var 9, .var 10, .var 11, .var 12, .var 13, .var 14, .var 15, .var 16, .var 17])))))) (
      .join 14 (
       .call 44 [.var 5, .var 6, .var 7, .var 8, .var 9, .var 10, .var 11, .var 12, .var 13, .var 14, .var 15, .var 16, .var 17] 1 <|
       .ite (.var 34) (
        .call 44 [.var 21, .var 22, .var 23, .var 24, .var 25, .var 26, .var 27, .var 28, .var 29, .var 30, .var 31, .var 32, .var 33] 1 <|
        .ite (.e2 .beq (.var 35) (.var 20)) (
         .call 45 [.var 21, .var 22, .var 23, .var 24, .var 25, .var 26, .var 27, .var 28, .var 29, .var 30, .var 31, .var 32, .var 33] 1 <|
         .ret [.e2 .beq (.var 36) (.var 20)]) (
         .ret [.lt (.bool false)])) (
        .ret [.lt (.bool false)])) <|
      .ite (.e2 .ieq (.e2 .rem (.var 1) (.lt (.int 5))) (.lt (.int 0))) (
       .ite (.e2 .ieq (.var 6) (.lt (.int 2))) (
        .jump 0 [.lt (.bool true), .var 5, .var 6, .lt (.int 3), .e2 .max (.var 8) (.lt (.int 0)), .var 9, .var 10, .var 11, .var 12, .var 13, .var 14, .var 15, .var 16, .var 17]) (
        .jump 0 [.lt (.bool true), .var 5, .var 6, .lt (.int 3), .e2 .max (.var 8) (.lt (.int 0)), .var 9, .var 10, .var 11, .var 12, .var 13, .var 14, .var 15, .var 16, .var 17])) (
       .ite (.e2 .ieq (.e2 .rem (.var 1) (.lt (.int 5))) (.lt (.int 1))) (
        .jump 0 [.e2 .ieq (.var 6) (.lt (.int 2)), .var 5, .var 6, .var 7, .var 8, .lt (.int 2), .var 10, .var 11, .var 12, .var 13, .var 14, .var 15, .var 16, .var 17]) (
        .ite (.e2 .ieq (.e2 .rem (.var 1) (.lt (.int 5))) (.lt (.int 2))) (
         .jump 0 [.e2 .ieq (.var 6) (.lt (.int 8)), .var 5, .var 6, .var 7, .var 8, .var 9, .var 10, .var 11, .var 12, .var 13, .var 14, .var 15, .var 16, .lt (.str [120])]) (
         .ite (.e2 .ieq (.e2 .rem (.var 1) (.lt (.int 5))) (.lt (.int 3))) (
          .jump 0 [.e2 .ieq (.var 6) (.lt (.int 2)), .var 5, .var 6, .var 7, .var 8, .var 9, .var 10, .var 11, .lt (.int 1), .var 13, .var 14, .var 15, .var 16, .var 17]) (
          .ite (.e2 .ieq (.e2 .rem (.var 1) (.lt (.int 5))) (.lt (.int 4))) (
           .jump 0 [.lt (.bool false), .var 5, .var 6, .var 7, .var 5, .var 9, .var 10, .var 11, .var 12, .var 13, .var 14, .var 15, .var 16, .var 17]) (
           .jump 0 [.lt (.bool true), .var 5, .var 6, .var 7, .var 8, .var 9, .var 10, .var 11, .var 12, .var 13, .var 14, .var 15, .var 16, .var 17]))))))) (
     .ite (.e2 .ieq (.var 6) (.lt (.int 6))) (
      .join 14 (
       .call 44 [.var 5, .var 6, .var 7, .var 8, .var 9, .var 10, .var 11, .var 12, .var 13, .var 14, .var 15, .var 16, .var 17] 1 <|
       .ite (.var 34) (
        .call 44 [.var 21, .var 22, .var 23, .var 24, .var 25, .var 26, .var 27, .var 28, .var 29, .var 30, .var 31, .var 32, .var 33] 1 <|
        .ite (.e2 .beq (.var 35) (.var 20)) (
         .call 45 [.var 21, .var 22, .var 23, .var 24, .var 25, .var 26, .var 27, .var 28, .var 29, .var 30, .var 31, .var 32, .var 33] 1 <|
         .ret [.e2 .beq (.var 36) (.var 20)]) (
         .ret [.lt (.bool false)])) (
        .ret [.lt (.bool false)])) <|
      .ite (.e2 .ieq (.e2 .rem (.var 1) (.lt (.int 5))) (.lt (.int 0))) (
       .ite (.e2 .ieq (.var 6) (.lt (.int 2))) (
        .jump 0 [.lt (.bool true), .var 5, .var 6, .lt (.int 3), .e2 .max (.var 8) (.lt (.int 0)), .var 9, .var 10, .var 11, .var 12, .var 13, .var 14, .var 15, .var 16, .var 17]) (
        .jump 0 [.e2 .ieq (.var 6) (.lt (.int 5)), .var 5, .var 6, .lt (.int 3), .e2 .max (.var 8) (.lt (.int 0)), .var 9, .var 10, .var 11, .var 12, .var 13, .var 14, .var 15, .var 16, .var 17])) (
       .ite (.e2 .ieq (.e2 .rem (.var 1) (.lt (.int 5))) (.lt (.int 1))) (
        .jump 0 [.e2 .ieq (.var 6) (.lt (.int 2)), .var 5, .var 6, .var 7, .var 8, .lt (.int 2), .var 10, .var 11, .var 12, .var 13, .var 14, .var 15, .var 16, .var 17]) (
        .ite (.e2 .ieq (.e2 .rem (.var 1) (.lt (.int 5))) (.lt (.int 2))) (
         .jump 0 [.lt (.bool true), .var 5, .var 6, .var 7, .var 8, .var 9, .var 10, .var 11, .var 12, .var 13, .var 14, .var 15, .var 16, .lt (.str [120])]) (
         .ite (.e2 .ieq (.e2 .rem (.var 1) (.lt (.int 5))) (.lt (.int 3))) (
          .jump 0 [.e2 .ieq (.var 6) (.lt (.int 2)), .var 5, .var 6, .var 7, .var 8, .var 9, .var 10, .var 11, .lt (.int 1), .var 13, .var 14, .var 15, .var 16, .var 17]) (
          .ite (.e2 .ieq (.e2 .rem (.var 1) (.lt (.int 5))) (.lt (.int 4))) (
           .jump 0 [.lt (.bool false), .var 5, .var 6, .var 7, .var 5, .var 9, .var 10, .var 11, .var 12, .var 13, .var 14, .var 15, .var 16, .var 17]) (
           .jump 0 [.lt (.bool true), .var 5, .var 6, .var 7, .var 8, .var 9, .var 10, .var 11, .var 12, .var 13, .var 14, .var 15, .var 16, .var 17])))))) (
      .join 14 (
       .call 44 [.var 5, .var 6, .var 7, .var 8, .var 9, .var 10, .var 11, .var 12, .var 13, .var 14, .var 15, .var 16, .var 17] 1 <|
       .ite (.var 34) (
        .call 44 [.var 21, .var 22, .var 23, .var 24, .var 25, .var 26, .var 27, .var 28, .var 29, .var 30, .var 31, .var 32, .var 33] 1 <|
        .ite (.e2 .beq (.var 35) (.var 20)) (
         .call 45 [.var 21, .var 22, .var 23, .var 24, .var 25, .var 26, .var 27, .var 28, .var 29, .var 30, .var 31, .var 32, .var 33] 1 <|
         .ret [.e2 .beq (.var 36) (.var 20)]) (
         .ret [.lt (.bool false)])) (
        .ret [.lt (.bool false)])) <|
      .ite (.e2 .ieq (.e2 .rem (.var 1) (.lt (.int 5))) (.lt (.int 0))) (
       .ite (.e2 .ieq (.var 6) (.lt (.int 2))) (
        .jump 0 [.lt (.bool true), .var 5, .var 6, .lt (.int 3), .e2 .max (.var 8) (.lt (.int 0)), .var 9, .var 10, .var 11, .var 12, .var 13, .var 14, .var 15, .var 16, .var 17]) (
        .jump 0 [.e2 .ieq (.var 6) (.lt (.int 5)), .var 5, .var 6, .lt (.int 3), .e2 .max (.var 8) (.lt (.int 0)), .var 9, .var 10, .var 11, .var 12, .var 13, .var 14, .var 15, .var 16, .var 17])) (
       .ite (.e2 .ieq (.e2 .rem (.var 1) (.lt (.int 5))) (.lt (.int 1))) (
        .jump 0 [.e2 .ieq (.var 6) (.lt (.int 2)), .var 5, .var 6, .var 7, .var 8, .lt (.int 2), .var 10, .var 11, .var 12, .var 13, .var 14, .var 15, .var 16, .var 17]) (
        .ite (.e2 .ieq (.e2 .rem (.var 1) (.lt (.int 5))) (.lt (.int 2))) (
         .jump 0 [.e2 .ieq (.var 6) (.lt (.int 8)), .var 5, .var 6, .var 7, .var 8, .var 9, .var 10, .var 11, .var 12, .var 13, .var 14, .var 15, .var 16, .lt (.str [120])]) (
         .ite (.e2 .ieq (.e2 .rem (.var 1) (.lt (.int 5))) (.lt (.int 3))) (
          .jump 0 [.e2 .ieq (.var 6) (.lt (.int 2)), .var 5, .var 6, .var 7, .var 8, .var 9, .var 10, .var 11, .lt (.int 1), .var 13, .var 14, .var 15, .var 16, .var 17]) (
          .ite (.e2 .ieq (.e2 .rem (.var 1) (.lt (.int 5))) (.lt (.int 4))) (
           .jump 0 [.lt (.bool false), .var 5, .var 6, .var 7, .var 5, .var 9, .var 10, .var 11, .var 12, .var 13, .var 14, .var 15, .var 16, .var 17]) (
           .jump 0 [.lt (.bool true), .var 5, .var 6, .var 7, .var 8, .var 9, .var 10, .var 11, .var 12, .var 13, .var 14, .var 15, .var 16, .var 17]))))))))))
theorem h13 : symFn K [(1000021, [.live 7, .obj 2])] 13 = .ok t13 := by kernel_rfl

end Go.Proofs.Ytdjbjfmgdagcgaa
